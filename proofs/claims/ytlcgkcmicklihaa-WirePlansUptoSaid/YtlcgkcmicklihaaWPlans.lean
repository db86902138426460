/- The walk of the law WirePlans. -/
import Derived.Test.YtlcgkcmicklihaaAwake
import Derived.Test.YtlcgkcmicklihaaHPlan
import Derived.Test.YtlcgkcmicklihaaRPlan
namespace Go.Proofs.Ytlcgkcmicklihaa.Wire
set_option linter.unusedVariables false
set_option linter.unusedSimpArgs false
open Go.RowKit Go.Proofs.YtlcgkcmicklihaaW.PrintWords Go.Proofs.YtlcgkcmicklihaaW.PrintLast Go.Proofs.YtlcgkcmicklihaaW.PrintMore
set_option maxRecDepth 100000 in
set_option maxHeartbeats 16000000 in
theorem wirePlans_walkL (y0 : Int) (y1 : Int) (y2 : List tTable.T) (y3 : List tLease.T) (y4 : List tJob.T) (cs : List Value) (w : World) (hH : Holds w (fun _ => True) tPlan ((y0, y1), (y2, (y3, y4))) cs) (hok : tPlan.cod.ok ((y0, y1), (y2, (y3, y4)))) (hlen : (tPlan.cod.enc ((y0, y1), (y2, (y3, y4)))).length ≤ 68719476736) :
    Calls Try.prog 8 #[.agg cs.toArray] w fun e w' => e = .returned (.bool true) ∧ Below w.heap.size w w' := by
  have HH0 := Lib.hid hH
  obtain ⟨ca1, cb1, rfl, ha1, hb1⟩ := Holds.pair_cell hH
  obtain ⟨ca2, cb2, rfl, ha2, hb2⟩ := Holds.pair_cell ha1
  obtain rfl := Holds.int_cell ha2
  obtain rfl := Holds.int_cell hb2
  obtain ⟨ca3, cb3, rfl, ha3, hb3⟩ := Holds.pair_cell hb1
  obtain ⟨A2, cap2, rfl, hh2⟩ := Holds.list_cell ha3
  obtain ⟨ca4, cb4, rfl, ha4, hb4⟩ := Holds.pair_cell hb3
  obtain ⟨A3, cap3, rfl, hh3⟩ := Holds.list_cell ha4
  obtain ⟨A4, cap4, rfl, hh4⟩ := Holds.list_cell hb4
  obtain ⟨L2, hL2⟩ : ∃ n, y2.length = n := ⟨_, rfl⟩
  obtain ⟨L4, hL4⟩ : ∃ n, y4.length = n := ⟨_, rfl⟩
  have hm2 : y2.length ≤ 9223372036854775807 := hok.2.1.1
  have hm3 : y3.length ≤ 9223372036854775807 := hok.2.2.1.1
  have hm4 : y4.length ≤ 9223372036854775807 := hok.2.2.2.1
  have hk2 := hok.2.1.2
  have hk4 := hok.2.2.2.2
  obtain ⟨X, hC, hokX, hlenX⟩ : ∃ X : tPlan.T, Holds w (fun _ => True) tPlan X [.int .i64 y0, .int .i64 y1, .slice A2 y2.length cap2, .slice A3 y3.length cap3, .slice A4 y4.length cap4] ∧ tPlan.cod.ok X ∧ (tPlan.cod.enc X).length ≤ 68719476736 := ⟨((y0, y1), (y2, (y3, y4))), HH0.out, hok, hlen⟩
  clear HH0 hH hok hlen hh3 ha1 ha2 hb2 hb1 ha3 hb3 ha4 hb4
  rw [hL2] at hh2 hm2 hC
  rw [hL4] at hh4 hm4 hC
  rw [hL2, hL4]
  have hs := get_enc tPlan.cod X hokX
  obtain ⟨S, hS⟩ : ∃ S, mkb (tPlan.cod.enc X) = S := ⟨_, rfl⟩
  have hss : S.size ≤ 68719476736 := by rw [← hS, mkb_size]; exact hlenX
  have hsd : S.data.toList = tPlan.cod.enc X := by rw [← hS, mkb_data]
  rw [← hsd] at hs
  have e0 := blk_new w (.cells #[.int .i64 y0, .int .i64 y1, .slice A2 L2 cap2, .slice A3 y3.length cap3, .slice A4 L4 cap4] 80)
  have hb0 : Below w.heap.size w (w.alloc (.cells #[.int .i64 y0, .int .i64 y1, .slice A2 L2 cap2, .slice A3 y3.length cap3, .slice A4 L4 cap4] 80)) := (Below.refl _ _).alloc (Nat.le_refl _) _
  have hN : (w.alloc (.cells #[.int .i64 y0, .int .i64 y1, .slice A2 L2 cap2, .slice A3 y3.length cap3, .slice A4 L4 cap4] 80)).heap.size = w.heap.size + 1 := by simp
  obtain ⟨wb, hwb⟩ : ∃ wb, w.alloc (.cells #[.int .i64 y0, .int .i64 y1, .slice A2 L2 cap2, .slice A3 y3.length cap3, .slice A4 L4 cap4] 80) = wb := ⟨_, rfl⟩
  rw [hwb] at e0 hb0 hN
  have HC := Lib.hid hC
  have HOK := Lib.hid hokX
  have HL := Lib.hid hlenX
  have HG := Lib.hid hs
  have HS := Lib.hid hS
  have HSS := Lib.hid hss
  have HE := Lib.hid e0
  have HB0 := Lib.hid hb0
  have HN := Lib.hid hN
  have HK2 := Lib.hid hk2
  have HK4 := Lib.hid hk4
  have HL2 := Lib.hid hL2
  have HL4 := Lib.hid hL4
  have HR2 := Lib.hid hh2
  have HR4 := Lib.hid hh4
  have HWB := Lib.hid hwb
  have q0 : wb.cell? ⟨w.heap.size, 0, none⟩ = some (.int .i64 y0) := (blk_cell e0 0).trans rfl
  have q1 : wb.cell? ⟨w.heap.size, 1, none⟩ = some (.int .i64 y1) := (blk_cell e0 1).trans rfl
  have q2 : wb.cell? ⟨w.heap.size, 2, none⟩ = some (.slice A2 L2 cap2) := (blk_cell e0 2).trans rfl
  have q3 : wb.cell? ⟨w.heap.size, 3, none⟩ = some (.slice A3 y3.length cap3) := (blk_cell e0 3).trans rfl
  have q4 : wb.cell? ⟨w.heap.size, 4, none⟩ = some (.slice A4 L4 cap4) := (blk_cell e0 4).trans rfl
  clear hC hokX hlenX hs hS hss hsd e0 hb0 hN hk2 hk4 hL2 hL4 hh2 hh4 hwb
  have Q0 := Lib.hid q0
  have Q1 := Lib.hid q1
  have Q2 := Lib.hid q2
  have Q3 := Lib.hid q3
  have Q4 := Lib.hid q4
  show Calls Try.prog 8 #[.agg #[.int .i64 y0, .int .i64 y1, .slice A2 L2 cap2, .slice A3 y3.length cap3, .slice A4 L4 cap4]] w _
  go_enter Try.func8, Try.ntmps8
  go_upto_region 1 with fail
  rw [HWB.out]
  go_wp2_with fail
  go_loopw [3, 27] (fun v3 v27 wr => ∃ (k : Nat) (n : Int), v27 = .int .i64 (k : Int) ∧ k ≤ L2 ∧ v3 = .int .i64 n ∧ Below wb.heap.size wb wr) (fun _ v27 _ => L2 - (intOf v27).toNat)
  case atStart => exact ⟨0, _, rfl, by omega, rfl, Below.refl _ _⟩
  case round =>
    obtain ⟨k, n, rfl, hk, rfl, hb⟩ := hrel
    have HB := Lib.hid hb
    have HX := Lib.hid (below_step HB0.out hb)
    clear hb q0 q1 q2 q3 q4
    by_cases hlt : k < L2
    · obtain ⟨z, hz⟩ : ∃ z, y2[k]? = some z := ⟨_, List.getElem?_eq_getElem (by rw [HL2.out]; exact hlt)⟩
      obtain ⟨bb, bo, ds, rfl, hokb, hHz, hds⟩ := HR2.out.list_at hz
      have hzok := HK2.out _ (List.mem_of_getElem? hz)
      obtain ⟨z0, z1, z2, z3, z4, rfl⟩ : ∃ (z0 : Int) (z1 : ByteArray) (z2 : List tColumn.T) (z3 : List tIndex.T) (z4 : List tForeign.T), z = (z0, (z1, (z2, (z3, z4)))) := ⟨_, _, _, _, _, rfl⟩
      obtain ⟨caz1, cbz1, rfl, haz1, hbz1⟩ := Holds.pair_cell hHz
      obtain rfl := Holds.int_cell haz1
      obtain ⟨caz2, cbz2, rfl, haz2, hbz2⟩ := Holds.pair_cell hbz1
      obtain rfl := Holds.str_cell haz2
      obtain ⟨caz3, cbz3, rfl, haz3, hbz3⟩ := Holds.pair_cell hbz2
      obtain ⟨Az2, capz2, rfl, hhz2⟩ := Holds.list_cell haz3
      obtain ⟨caz4, cbz4, rfl, haz4, hbz4⟩ := Holds.pair_cell hbz3
      obtain ⟨Az3, capz3, rfl, hhz3⟩ := Holds.list_cell haz4
      obtain ⟨Az4, capz4, rfl, hhz4⟩ := Holds.list_cell hbz4
      have n0 := keep1 (show w.cell? ⟨bb, bo + k * 5, none⟩ = some (.int .i64 z0) from hds 0 _ rfl) HX.out
      have n1 := keep1 (show w.cell? ⟨bb, bo + k * 5 + 1, none⟩ = some (.string z1) from hds 1 _ rfl) HX.out
      have n2 := keep1 (show w.cell? ⟨bb, bo + k * 5 + 2, none⟩ = some (.slice Az2 z2.length capz2) from hds 2 _ rfl) HX.out
      have n3 := keep1 (show w.cell? ⟨bb, bo + k * 5 + 3, none⟩ = some (.slice Az3 z3.length capz3) from hds 3 _ rfl) HX.out
      have n4 := keep1 (show w.cell? ⟨bb, bo + k * 5 + 4, none⟩ = some (.slice Az4 z4.length capz4) from hds 4 _ rfl) HX.out
      have hz2 : z2.length ≤ 9223372036854775807 := hzok.2.2.1.1
      have hz3 : z3.length ≤ 9223372036854775807 := hzok.2.2.2.1.1
      have hz4 : z4.length ≤ 9223372036854775807 := hzok.2.2.2.2.1
      clear hz hokb hHz hds hzok hhz2 hhz3 hhz4 haz1 hbz1 haz2 hbz2 haz3 hbz3 haz4 hbz4
      have c0 : (0 : Int) ≤ (k : Int) := by omega
      have c1 : (k : Int) < (L2 : Int) := by omega
      have hbw : Below wr.heap.size wr (wr.alloc (.cells #[.int .i64 z0, .string z1, .slice Az2 z2.length capz2, .slice Az3 z3.length capz3, .slice Az4 z4.length capz4] 84)) := (Below.refl _ _).alloc (Nat.le_refl _) _
      have hkk := blk_new wr (.cells #[.int .i64 z0, .string z1, .slice Az2 z2.length capz2, .slice Az3 z3.length capz3, .slice Az4 z4.length capz4] 84)
      obtain ⟨wc, hwc⟩ : ∃ wc, wr.alloc (.cells #[.int .i64 z0, .string z1, .slice Az2 z2.length capz2, .slice Az3 z3.length capz3, .slice Az4 z4.length capz4] 84) = wc := ⟨_, rfl⟩
      rw [hwc] at hbw hkk
      have x2 : wc.cell? ⟨wr.heap.size, 2, none⟩ = some (.slice Az2 z2.length capz2) := (blk_cell hkk 2).trans rfl
      have x3 : wc.cell? ⟨wr.heap.size, 3, none⟩ = some (.slice Az3 z3.length capz3) := (blk_cell hkk 3).trans rfl
      have x4 : wc.cell? ⟨wr.heap.size, 4, none⟩ = some (.slice Az4 z4.length capz4) := (blk_cell hkk 4).trans rfl
      have HBc := Lib.hid (below_step HB.out hbw)
      have p0 := keep1 (keep1 Q0.out HB.out) hbw
      have p1 := keep1 (keep1 Q1.out HB.out) hbw
      have p2 := keep1 (keep1 Q2.out HB.out) hbw
      have p3 := keep1 (keep1 Q3.out HB.out) hbw
      have p4 := keep1 (keep1 Q4.out HB.out) hbw
      have HWC := Lib.hid hwc
      clear hbw hkk hwc
      go_upto_region 5 with fail
      rw [HWC.out]
      clear HWC
      go_upto_region 6 with fail
      obtain ⟨m1, hn1⟩ : ∃ m1, wrap64 (n + wrap64 (wrap64 ((z2.length : Int) + (z3.length : Int)) + (z4.length : Int))) = m1 := ⟨_, rfl⟩
      rw [hn1]
      clear hn1 n0 n1 n2 n3 n4 c0 c1 hz2 hz3 hz4 x2 x3 x4
      by_cases h4 : (2000 : Int) < m1
      · have d4 : decide ((2000 : Int) < m1) = true := decide_eq_true h4
        clear h4
        go_wp2_with fail
        go_loopw [3, 50] (fun v3 v50 wr => ∃ (j : Nat) (n : Int), v50 = .int .i64 (j : Int) ∧ j ≤ L4 ∧ v3 = .int .i64 n ∧ Below wb.heap.size wb wr) (fun _ v50 _ => L4 - (intOf v50).toNat)
        case atStart => exact ⟨0, _, rfl, by omega, rfl, HBc.out⟩
        case round =>
          obtain ⟨j, m, rfl, hj, rfl, hbi⟩ := hrel
          have HBi := Lib.hid hbi
          have HXi := Lib.hid (below_step HB0.out hbi)
          clear hbi p0 p1 p2 p3 p4
          by_cases hlj : j < L4
          · obtain ⟨z, hz⟩ : ∃ z, y4[j]? = some z := ⟨_, List.getElem?_eq_getElem (by rw [HL4.out]; exact hlj)⟩
            obtain ⟨bb, bo, ds, rfl, hokb, hHz, hds⟩ := HR4.out.list_at hz
            have hzok := HK4.out _ (List.mem_of_getElem? hz)
            obtain ⟨u0, u1, u2, u3, u4, u5, u6, u7, u8, u9, u10, u11, u12, u13, u14, u15, u16, u17, u18, u19, u20, u21, rfl⟩ : ∃ (u0 : Int) (u1 : Int) (u2 : Int) (u3 : Int) (u4 : Int) (u5 : Int) (u6 : ByteArray) (u7 : ByteArray) (u8 : ByteArray) (u9 : ByteArray) (u10 : Bool) (u11 : Int) (u12 : Int) (u13 : Int) (u14 : ByteArray) (u15 : List tColumn.T) (u16 : Int) (u17 : Bool) (u18 : Bool) (u19 : ByteArray) (u20 : Int) (u21 : Int), z = ((u0, u1), ((u2, (u3, u4)), ((u5, ((u6, (u7, (u8, u9))), (u10, (u11, ((u12, (u13, u14)), u15))))), (u16, (u17, (u18, (u19, (u20, u21)))))))) := by
              obtain ⟨⟨u0, u1⟩, ⟨⟨u2, ⟨u3, u4⟩⟩, ⟨⟨u5, ⟨⟨u6, ⟨u7, ⟨u8, u9⟩⟩⟩, ⟨u10, ⟨u11, ⟨⟨u12, ⟨u13, u14⟩⟩, u15⟩⟩⟩⟩⟩, ⟨u16, ⟨u17, ⟨u18, ⟨u19, ⟨u20, u21⟩⟩⟩⟩⟩⟩⟩⟩ := z
              exact ⟨_, _, _, _, _, _, _, _, _, _, _, _, _, _, _, _, _, _, _, _, _, _, rfl⟩
            obtain ⟨cau1, cbu1, rfl, hau1, hbu1⟩ := Holds.pair_cell hHz
            obtain ⟨cau2, cbu2, rfl, hau2, hbu2⟩ := Holds.pair_cell hau1
            obtain rfl := Holds.int_cell hau2
            obtain rfl := Holds.int_cell hbu2
            obtain ⟨cau3, cbu3, rfl, hau3, hbu3⟩ := Holds.pair_cell hbu1
            obtain ⟨cau4, cbu4, rfl, hau4, hbu4⟩ := Holds.pair_cell hau3
            obtain rfl := Holds.int_cell hau4
            obtain ⟨cau5, cbu5, rfl, hau5, hbu5⟩ := Holds.pair_cell hbu4
            obtain rfl := Holds.int_cell hau5
            obtain rfl := Holds.int_cell hbu5
            obtain ⟨cau6, cbu6, rfl, hau6, hbu6⟩ := Holds.pair_cell hbu3
            obtain ⟨cau7, cbu7, rfl, hau7, hbu7⟩ := Holds.pair_cell hau6
            obtain rfl := Holds.int_cell hau7
            obtain ⟨cau8, cbu8, rfl, hau8, hbu8⟩ := Holds.pair_cell hbu7
            obtain ⟨cau9, cbu9, rfl, hau9, hbu9⟩ := Holds.pair_cell hau8
            obtain rfl := Holds.str_cell hau9
            obtain ⟨cau10, cbu10, rfl, hau10, hbu10⟩ := Holds.pair_cell hbu9
            obtain rfl := Holds.str_cell hau10
            obtain ⟨cau11, cbu11, rfl, hau11, hbu11⟩ := Holds.pair_cell hbu10
            obtain rfl := Holds.str_cell hau11
            obtain rfl := Holds.str_cell hbu11
            obtain ⟨cau12, cbu12, rfl, hau12, hbu12⟩ := Holds.pair_cell hbu8
            obtain rfl := Holds.bool_cell hau12
            obtain ⟨cau13, cbu13, rfl, hau13, hbu13⟩ := Holds.pair_cell hbu12
            obtain rfl := Holds.int_cell hau13
            obtain ⟨cau14, cbu14, rfl, hau14, hbu14⟩ := Holds.pair_cell hbu13
            obtain ⟨cau15, cbu15, rfl, hau15, hbu15⟩ := Holds.pair_cell hau14
            obtain rfl := Holds.int_cell hau15
            obtain ⟨cau16, cbu16, rfl, hau16, hbu16⟩ := Holds.pair_cell hbu15
            obtain rfl := Holds.int_cell hau16
            obtain rfl := Holds.str_cell hbu16
            obtain ⟨Au15, capu15, rfl, hhu15⟩ := Holds.list_cell hbu14
            obtain ⟨cau17, cbu17, rfl, hau17, hbu17⟩ := Holds.pair_cell hbu6
            obtain rfl := Holds.int_cell hau17
            obtain ⟨cau18, cbu18, rfl, hau18, hbu18⟩ := Holds.pair_cell hbu17
            obtain rfl := Holds.bool_cell hau18
            obtain ⟨cau19, cbu19, rfl, hau19, hbu19⟩ := Holds.pair_cell hbu18
            obtain rfl := Holds.bool_cell hau19
            obtain ⟨cau20, cbu20, rfl, hau20, hbu20⟩ := Holds.pair_cell hbu19
            obtain rfl := Holds.str_cell hau20
            obtain ⟨cau21, cbu21, rfl, hau21, hbu21⟩ := Holds.pair_cell hbu20
            obtain rfl := Holds.int_cell hau21
            obtain rfl := Holds.int_cell hbu21
            rw [show tJob.sz = 22 from rfl] at hds
            have HCL := Lib.hid (show ∀ (i : Nat) (v : Value), [.int .i64 u0, .int .i64 u1, .int .i64 u2, .int .i64 u3, .int .i64 u4, .int .i64 u5, .string u6, .string u7, .string u8, .string u9, .bool u10, .int .i64 u11, .int .i64 u12, .int .i64 u13, .string u14, .slice Au15 u15.length capu15, .int .i64 u16, .bool u17, .bool u18, .string u19, .int .i64 u20, .int .i64 u21][i]? = some v → wr.cell? ((⟨bb, bo + j * 22, none⟩ : Addr).add i) = some v from fun i v hv => by rw [add_at]; exact keep1 (hds i v hv) HXi.out)
            have hz15 : u15.length ≤ 9223372036854775807 := hzok.2.2.1.2.2.2.2.2.1
            clear hz hokb hHz hds hzok hhu15 hau1 hau2 hbu2 hbu1 hau3 hau4 hbu4 hau5 hbu5 hbu3 hau6 hau7 hbu7 hau8 hau9 hbu9 hau10 hbu10 hau11 hbu11 hbu8 hau12 hbu12 hau13 hbu13 hau14 hau15 hbu15 hau16 hbu16 hbu14 hbu6 hau17 hbu17 hau18 hbu18 hau19 hbu19 hau20 hbu20 hau21 hbu21
            have c0 : (0 : Int) ≤ (j : Int) := by omega
            have c1 : (j : Int) < (L4 : Int) := by omega
            have hbw : Below wr.heap.size wr (wr.alloc (.cells #[.int .i64 u0, .int .i64 u1, .int .i64 u2, .int .i64 u3, .int .i64 u4, .int .i64 u5, .string u6, .string u7, .string u8, .string u9, .bool u10, .int .i64 u11, .int .i64 u12, .int .i64 u13, .string u14, .slice Au15 u15.length capu15, .int .i64 u16, .bool u17, .bool u18, .string u19, .int .i64 u20, .int .i64 u21] 86)) := (Below.refl _ _).alloc (Nat.le_refl _) _
            have hkk := blk_new wr (.cells #[.int .i64 u0, .int .i64 u1, .int .i64 u2, .int .i64 u3, .int .i64 u4, .int .i64 u5, .string u6, .string u7, .string u8, .string u9, .bool u10, .int .i64 u11, .int .i64 u12, .int .i64 u13, .string u14, .slice Au15 u15.length capu15, .int .i64 u16, .bool u17, .bool u18, .string u19, .int .i64 u20, .int .i64 u21] 86)
            obtain ⟨wc, hwc⟩ : ∃ wc, wr.alloc (.cells #[.int .i64 u0, .int .i64 u1, .int .i64 u2, .int .i64 u3, .int .i64 u4, .int .i64 u5, .string u6, .string u7, .string u8, .string u9, .bool u10, .int .i64 u11, .int .i64 u12, .int .i64 u13, .string u14, .slice Au15 u15.length capu15, .int .i64 u16, .bool u17, .bool u18, .string u19, .int .i64 u20, .int .i64 u21] 86) = wc := ⟨_, rfl⟩
            rw [hwc] at hbw hkk
            have x15 : wc.cell? ⟨wr.heap.size, 15, none⟩ = some (.slice Au15 u15.length capu15) := (blk_cell hkk 15).trans rfl
            have HBc := Lib.hid (below_step HBi.out hbw)
            have HWC := Lib.hid hwc
            clear hbw hkk hwc
            go_upto_region 11 with (first | ((with_reducible refine gate_load (t := 86) (p := .tmp 52) rfl ?_); refine wpList_load_cells (t := 86) (c := [.int .i64 u0, .int .i64 u1, .int .i64 u2, .int .i64 u3, .int .i64 u4, .int .i64 u5, .string u6, .string u7, .string u8, .string u9, .bool u10, .int .i64 u11, .int .i64 u12, .int .i64 u13, .string u14, .slice Au15 u15.length capu15, .int .i64 u16, .bool u17, .bool u18, .string u19, .int .i64 u20, .int .i64 u21]) rfl (.tmp 52) rfl (by rfl) Try.underlying86 (by kernel_rfl) HCL.out ?_) | ((with_reducible refine gate_store (t := 86) (p := .tmp 7) (x := .tmp 53) rfl ?_); refine wpList_store_new (t := 86) rfl (.tmp 7) (.tmp 53) rfl #[.int .i64 u0, .int .i64 u1, .int .i64 u2, .int .i64 u3, .int .i64 u4, .int .i64 u5, .string u6, .string u7, .string u8, .string u9, .bool u10, .int .i64 u11, .int .i64 u12, .int .i64 u13, .string u14, .slice Au15 u15.length capu15, .int .i64 u16, .bool u17, .bool u18, .string u19, .int .i64 u20, .int .i64 u21] (by rfl) (by rfl) (by kernel_rfl) rfl (by kernel_rfl) ?_))
            rw [HWC.out]
            clear HCL HWC
            go_upto_region 12 with fail
            obtain ⟨m2, hm2⟩ : ∃ m2, wrap64 (m + (u15.length : Int)) = m2 := ⟨_, rfl⟩
            rw [hm2]
            clear hm2 x15 hz15 c0 c1
            by_cases h5 : (2000 : Int) < m2
            · have d5 : decide ((2000 : Int) < m2) = true := decide_eq_true h5
              clear h5
              go_wp2_with fail
              refine (awake_calls _).mono ?_
              rintro e w1 ⟨rfl, hb1⟩
              have HB1 := Lib.hid (below_step (below_step HB0.out HBc.out) hb1)
              clear hb1
              go_wp2_with fail
              refine (awake_calls _).mono ?_
              rintro e w2 ⟨rfl, hb2⟩
              have HB2 := Lib.hid hb2
              clear hb2
              go_wp2_with fail
              go_ret
              exact ⟨rfl, below_step HB1.out HB2.out⟩
            · have d5 : decide ((2000 : Int) < m2) = false := decide_eq_false h5
              clear h5
              have b0 : (0 : Int) ≤ (j : Int) := by omega
              have b1 : (j : Int) < (L4 : Int) := by omega
              go_wp2_with fail
              go_roundw
              case rel => first | exact ⟨j + 1, _, by go_num, by omega, rfl, HBc.out⟩ | ((repeat apply Exists.intro); refine ⟨?_, rfl⟩; exact ⟨j + 1, _, by go_num, by omega, rfl, HBc.out⟩)
              case measure => simp [intOf]; omega
          · obtain rfl : j = L4 := by omega
            by_cases h5 : (2000 : Int) < m
            · have d5 : decide ((2000 : Int) < m) = true := decide_eq_true h5
              clear h5
              go_wp2_with fail
              refine (awake_calls _).mono ?_
              rintro e w1 ⟨rfl, hb1⟩
              have HB1 := Lib.hid (below_step (below_step HB0.out HBi.out) hb1)
              clear hb1
              go_wp2_with fail
              refine (awake_calls _).mono ?_
              rintro e w2 ⟨rfl, hb2⟩
              have HB2 := Lib.hid hb2
              clear hb2
              go_wp2_with fail
              go_ret
              exact ⟨rfl, below_step HB1.out HB2.out⟩
            · have d5 : decide ((2000 : Int) < m) = false := decide_eq_false h5
              clear h5
              go_wp2_with fail
              refine (awake_calls _).mono ?_
              rintro e w1 ⟨rfl, hb1⟩
              have hk0 := (HBi.out.block w.heap.size (by rw [HN.out]; omega)).trans HE.out
              have HK1 := Lib.hid ((hb1.block w.heap.size (blk_lt hk0)).trans hk0)
              have HB1 := Lib.hid (below_step (below_step HB0.out HBi.out) hb1)
              have HC1 := Lib.hid (HC.out.below HB1.out)
              clear hb1 hk0
              go_wp2_with ((with_reducible refine gate_load (t := 80) (p := .tmp 1) rfl ?_); refine wpList_load_whole (t := 80) rfl (.tmp 1) rfl (by rfl) Try.underlying80 (by kernel_rfl) HK1.out ?_)
              all_goals first
                | (refine (awake_calls _).mono ?_; rintro e w2 ⟨rfl, hb2⟩; have HB2 := Lib.hid hb2; clear hb2; go_wp2_with fail; go_ret; exact ⟨rfl, below_step HB1.out HB2.out⟩)
                | skip
              all_goals
                refine (Put_plan X _ _ _ HC1.out HOK.out HL.out).mono ?_
                rintro e w2 ⟨rfl, hb2⟩
                rw [HS.out]
                have HK2 := Lib.hid ((hb2.block w.heap.size (blk_lt HK1.out)).trans HK1.out)
                have HB2 := Lib.hid (below_step HB1.out hb2)
                have HC2 := Lib.hid (HC1.out.below hb2)
                clear hb2
                go_wp2_with fail
                refine (Get_plan S _ HSS.out).mono ?_
                rintro e w3 ⟨hb3, hr⟩
                rcases hr with ⟨x', cs', hx, rfl, hH⟩ | ⟨hx, rfl⟩
                · rw [HG.out] at hx
                  injection hx with hx
                  subst hx
                  have hl := hH.len
                  have h1 := all_one hH.one
                  obtain ⟨u0, u1, u2, u3, u4, rfl⟩ : ∃ u0 u1 u2 u3 u4, cs' = [u0, u1, u2, u3, u4] := by
                    match cs', hl with
                    | [u0, u1, u2, u3, u4], _ => exact ⟨u0, u1, u2, u3, u4, rfl⟩
                  have H1 := Lib.hid h1
                  have hb4 : Below w3.heap.size w3 (w3.alloc (.cells #[u0, u1, u2, u3, u4] 80)) := (Below.refl _ _).alloc (Nat.le_refl _) _
                  have HK4 := Lib.hid ((hb4.block w.heap.size (by have := hb3.size; have := blk_lt HK2.out; omega)).trans ((hb3.block w.heap.size (blk_lt HK2.out)).trans HK2.out))
                  have HU4 := Lib.hid (blk_new w3 (.cells #[u0, u1, u2, u3, u4] 80))
                  have HH4 := Lib.hid (hH.below hb4)
                  have HC4 := Lib.hid ((HC2.out.below hb3).below hb4)
                  have HB4 := Lib.hid (below_step (below_step HB2.out hb3) hb4)
                  have HN4 := Lib.hid (show (w3.alloc (.cells #[u0, u1, u2, u3, u4] 80)).heap.size = w3.heap.size + 1 by simp)
                  clear hb3 hb4 hH hl h1
                  go_wp2_with (first | ((with_reducible refine gate_store (t := 80) (p := .tmp 9) (x := .tmp 75) rfl ?_); refine wpList_store_new (t := 80) rfl (.tmp 9) (.tmp 75) rfl #[u0, u1, u2, u3, u4] (by rfl) (by rfl) (by kernel_rfl) rfl H1.out ?_) | ((with_reducible refine gate_load (t := 80) (p := .tmp 1) rfl ?_); refine wpList_load_whole (t := 80) rfl (.tmp 1) rfl (by rfl) Try.underlying80 (by kernel_rfl) HK4.out ?_))
                  refine (plan_ref X _ _ _ HC4.out HOK.out HL.out).mono ?_
                  rintro e w5 ⟨rfl, hb5⟩
                  rw [HS.out]
                  have hk5 := (hb5.block w3.heap.size (by rw [HN4.out]; omega)).trans HU4.out
                  have x0 : w5.cell? ⟨w3.heap.size, 0, none⟩ = some u0 := (blk_cell hk5 0).trans rfl
                  have x1 : w5.cell? ⟨w3.heap.size, 1, none⟩ = some u1 := (blk_cell hk5 1).trans rfl
                  have x2 : w5.cell? ⟨w3.heap.size, 2, none⟩ = some u2 := (blk_cell hk5 2).trans rfl
                  have x3 : w5.cell? ⟨w3.heap.size, 3, none⟩ = some u3 := (blk_cell hk5 3).trans rfl
                  have x4 : w5.cell? ⟨w3.heap.size, 4, none⟩ = some u4 := (blk_cell hk5 4).trans rfl
                  have HH5 := Lib.hid (HH4.out.below hb5)
                  have HB5 := Lib.hid (below_step HB4.out hb5)
                  clear hb5 hk5
                  go_wp2_with fail
                  refine (plan_ref X [u0, u1, u2, u3, u4] _ _ HH5.out HOK.out HL.out).mono ?_
                  rintro e w6 ⟨rfl, hb6⟩
                  rw [HS.out]
                  have HB6 := Lib.hid (below_step HB5.out hb6)
                  clear hb6
                  go_wp2_with fail
                  go_ret
                  exact ⟨rfl, HB6.out⟩
                · rw [HG.out] at hx
                  cases hx
      · have d4 : decide ((2000 : Int) < m1) = false := decide_eq_false h4
        clear h4 p0 p1 p2 p3 p4
        have b0 : (0 : Int) ≤ (k : Int) := by omega
        have b1 : (k : Int) < (L2 : Int) := by omega
        go_wp2_with fail
        refine ⟨⟨k + 1, _, by go_num, by omega, rfl, HBc.out⟩, by simp [intOf]; omega⟩
    · obtain rfl : k = L2 := by omega
      have p0 := keep1 Q0.out HB.out
      have p1 := keep1 Q1.out HB.out
      have p2 := keep1 Q2.out HB.out
      have p3 := keep1 Q3.out HB.out
      have p4 := keep1 Q4.out HB.out
      go_wp2_with fail
      go_loopw [3, 50] (fun v3 v50 wr => ∃ (j : Nat) (n : Int), v50 = .int .i64 (j : Int) ∧ j ≤ L4 ∧ v3 = .int .i64 n ∧ Below wb.heap.size wb wr) (fun _ v50 _ => L4 - (intOf v50).toNat)
      case atStart => exact ⟨0, _, rfl, by omega, rfl, HB.out⟩
      case round =>
        obtain ⟨j, m, rfl, hj, rfl, hbi⟩ := hrel
        have HBi := Lib.hid hbi
        have HXi := Lib.hid (below_step HB0.out hbi)
        clear hbi p0 p1 p2 p3 p4
        by_cases hlj : j < L4
        · obtain ⟨z, hz⟩ : ∃ z, y4[j]? = some z := ⟨_, List.getElem?_eq_getElem (by rw [HL4.out]; exact hlj)⟩
          obtain ⟨bb, bo, ds, rfl, hokb, hHz, hds⟩ := HR4.out.list_at hz
          have hzok := HK4.out _ (List.mem_of_getElem? hz)
          obtain ⟨u0, u1, u2, u3, u4, u5, u6, u7, u8, u9, u10, u11, u12, u13, u14, u15, u16, u17, u18, u19, u20, u21, rfl⟩ : ∃ (u0 : Int) (u1 : Int) (u2 : Int) (u3 : Int) (u4 : Int) (u5 : Int) (u6 : ByteArray) (u7 : ByteArray) (u8 : ByteArray) (u9 : ByteArray) (u10 : Bool) (u11 : Int) (u12 : Int) (u13 : Int) (u14 : ByteArray) (u15 : List tColumn.T) (u16 : Int) (u17 : Bool) (u18 : Bool) (u19 : ByteArray) (u20 : Int) (u21 : Int), z = ((u0, u1), ((u2, (u3, u4)), ((u5, ((u6, (u7, (u8, u9))), (u10, (u11, ((u12, (u13, u14)), u15))))), (u16, (u17, (u18, (u19, (u20, u21)))))))) := by
            obtain ⟨⟨u0, u1⟩, ⟨⟨u2, ⟨u3, u4⟩⟩, ⟨⟨u5, ⟨⟨u6, ⟨u7, ⟨u8, u9⟩⟩⟩, ⟨u10, ⟨u11, ⟨⟨u12, ⟨u13, u14⟩⟩, u15⟩⟩⟩⟩⟩, ⟨u16, ⟨u17, ⟨u18, ⟨u19, ⟨u20, u21⟩⟩⟩⟩⟩⟩⟩⟩ := z
            exact ⟨_, _, _, _, _, _, _, _, _, _, _, _, _, _, _, _, _, _, _, _, _, _, rfl⟩
          obtain ⟨cau1, cbu1, rfl, hau1, hbu1⟩ := Holds.pair_cell hHz
          obtain ⟨cau2, cbu2, rfl, hau2, hbu2⟩ := Holds.pair_cell hau1
          obtain rfl := Holds.int_cell hau2
          obtain rfl := Holds.int_cell hbu2
          obtain ⟨cau3, cbu3, rfl, hau3, hbu3⟩ := Holds.pair_cell hbu1
          obtain ⟨cau4, cbu4, rfl, hau4, hbu4⟩ := Holds.pair_cell hau3
          obtain rfl := Holds.int_cell hau4
          obtain ⟨cau5, cbu5, rfl, hau5, hbu5⟩ := Holds.pair_cell hbu4
          obtain rfl := Holds.int_cell hau5
          obtain rfl := Holds.int_cell hbu5
          obtain ⟨cau6, cbu6, rfl, hau6, hbu6⟩ := Holds.pair_cell hbu3
          obtain ⟨cau7, cbu7, rfl, hau7, hbu7⟩ := Holds.pair_cell hau6
          obtain rfl := Holds.int_cell hau7
          obtain ⟨cau8, cbu8, rfl, hau8, hbu8⟩ := Holds.pair_cell hbu7
          obtain ⟨cau9, cbu9, rfl, hau9, hbu9⟩ := Holds.pair_cell hau8
          obtain rfl := Holds.str_cell hau9
          obtain ⟨cau10, cbu10, rfl, hau10, hbu10⟩ := Holds.pair_cell hbu9
          obtain rfl := Holds.str_cell hau10
          obtain ⟨cau11, cbu11, rfl, hau11, hbu11⟩ := Holds.pair_cell hbu10
          obtain rfl := Holds.str_cell hau11
          obtain rfl := Holds.str_cell hbu11
          obtain ⟨cau12, cbu12, rfl, hau12, hbu12⟩ := Holds.pair_cell hbu8
          obtain rfl := Holds.bool_cell hau12
          obtain ⟨cau13, cbu13, rfl, hau13, hbu13⟩ := Holds.pair_cell hbu12
          obtain rfl := Holds.int_cell hau13
          obtain ⟨cau14, cbu14, rfl, hau14, hbu14⟩ := Holds.pair_cell hbu13
          obtain ⟨cau15, cbu15, rfl, hau15, hbu15⟩ := Holds.pair_cell hau14
          obtain rfl := Holds.int_cell hau15
          obtain ⟨cau16, cbu16, rfl, hau16, hbu16⟩ := Holds.pair_cell hbu15
          obtain rfl := Holds.int_cell hau16
          obtain rfl := Holds.str_cell hbu16
          obtain ⟨Au15, capu15, rfl, hhu15⟩ := Holds.list_cell hbu14
          obtain ⟨cau17, cbu17, rfl, hau17, hbu17⟩ := Holds.pair_cell hbu6
          obtain rfl := Holds.int_cell hau17
          obtain ⟨cau18, cbu18, rfl, hau18, hbu18⟩ := Holds.pair_cell hbu17
          obtain rfl := Holds.bool_cell hau18
          obtain ⟨cau19, cbu19, rfl, hau19, hbu19⟩ := Holds.pair_cell hbu18
          obtain rfl := Holds.bool_cell hau19
          obtain ⟨cau20, cbu20, rfl, hau20, hbu20⟩ := Holds.pair_cell hbu19
          obtain rfl := Holds.str_cell hau20
          obtain ⟨cau21, cbu21, rfl, hau21, hbu21⟩ := Holds.pair_cell hbu20
          obtain rfl := Holds.int_cell hau21
          obtain rfl := Holds.int_cell hbu21
          rw [show tJob.sz = 22 from rfl] at hds
          have HCL := Lib.hid (show ∀ (i : Nat) (v : Value), [.int .i64 u0, .int .i64 u1, .int .i64 u2, .int .i64 u3, .int .i64 u4, .int .i64 u5, .string u6, .string u7, .string u8, .string u9, .bool u10, .int .i64 u11, .int .i64 u12, .int .i64 u13, .string u14, .slice Au15 u15.length capu15, .int .i64 u16, .bool u17, .bool u18, .string u19, .int .i64 u20, .int .i64 u21][i]? = some v → wr.cell? ((⟨bb, bo + j * 22, none⟩ : Addr).add i) = some v from fun i v hv => by rw [add_at]; exact keep1 (hds i v hv) HXi.out)
          have hz15 : u15.length ≤ 9223372036854775807 := hzok.2.2.1.2.2.2.2.2.1
          clear hz hokb hHz hds hzok hhu15 hau1 hau2 hbu2 hbu1 hau3 hau4 hbu4 hau5 hbu5 hbu3 hau6 hau7 hbu7 hau8 hau9 hbu9 hau10 hbu10 hau11 hbu11 hbu8 hau12 hbu12 hau13 hbu13 hau14 hau15 hbu15 hau16 hbu16 hbu14 hbu6 hau17 hbu17 hau18 hbu18 hau19 hbu19 hau20 hbu20 hau21 hbu21
          have c0 : (0 : Int) ≤ (j : Int) := by omega
          have c1 : (j : Int) < (L4 : Int) := by omega
          have hbw : Below wr.heap.size wr (wr.alloc (.cells #[.int .i64 u0, .int .i64 u1, .int .i64 u2, .int .i64 u3, .int .i64 u4, .int .i64 u5, .string u6, .string u7, .string u8, .string u9, .bool u10, .int .i64 u11, .int .i64 u12, .int .i64 u13, .string u14, .slice Au15 u15.length capu15, .int .i64 u16, .bool u17, .bool u18, .string u19, .int .i64 u20, .int .i64 u21] 86)) := (Below.refl _ _).alloc (Nat.le_refl _) _
          have hkk := blk_new wr (.cells #[.int .i64 u0, .int .i64 u1, .int .i64 u2, .int .i64 u3, .int .i64 u4, .int .i64 u5, .string u6, .string u7, .string u8, .string u9, .bool u10, .int .i64 u11, .int .i64 u12, .int .i64 u13, .string u14, .slice Au15 u15.length capu15, .int .i64 u16, .bool u17, .bool u18, .string u19, .int .i64 u20, .int .i64 u21] 86)
          obtain ⟨wc, hwc⟩ : ∃ wc, wr.alloc (.cells #[.int .i64 u0, .int .i64 u1, .int .i64 u2, .int .i64 u3, .int .i64 u4, .int .i64 u5, .string u6, .string u7, .string u8, .string u9, .bool u10, .int .i64 u11, .int .i64 u12, .int .i64 u13, .string u14, .slice Au15 u15.length capu15, .int .i64 u16, .bool u17, .bool u18, .string u19, .int .i64 u20, .int .i64 u21] 86) = wc := ⟨_, rfl⟩
          rw [hwc] at hbw hkk
          have x15 : wc.cell? ⟨wr.heap.size, 15, none⟩ = some (.slice Au15 u15.length capu15) := (blk_cell hkk 15).trans rfl
          have HBc := Lib.hid (below_step HBi.out hbw)
          have HWC := Lib.hid hwc
          clear hbw hkk hwc
          go_upto_region 11 with (first | ((with_reducible refine gate_load (t := 86) (p := .tmp 52) rfl ?_); refine wpList_load_cells (t := 86) (c := [.int .i64 u0, .int .i64 u1, .int .i64 u2, .int .i64 u3, .int .i64 u4, .int .i64 u5, .string u6, .string u7, .string u8, .string u9, .bool u10, .int .i64 u11, .int .i64 u12, .int .i64 u13, .string u14, .slice Au15 u15.length capu15, .int .i64 u16, .bool u17, .bool u18, .string u19, .int .i64 u20, .int .i64 u21]) rfl (.tmp 52) rfl (by rfl) Try.underlying86 (by kernel_rfl) HCL.out ?_) | ((with_reducible refine gate_store (t := 86) (p := .tmp 7) (x := .tmp 53) rfl ?_); refine wpList_store_new (t := 86) rfl (.tmp 7) (.tmp 53) rfl #[.int .i64 u0, .int .i64 u1, .int .i64 u2, .int .i64 u3, .int .i64 u4, .int .i64 u5, .string u6, .string u7, .string u8, .string u9, .bool u10, .int .i64 u11, .int .i64 u12, .int .i64 u13, .string u14, .slice Au15 u15.length capu15, .int .i64 u16, .bool u17, .bool u18, .string u19, .int .i64 u20, .int .i64 u21] (by rfl) (by rfl) (by kernel_rfl) rfl (by kernel_rfl) ?_))
          rw [HWC.out]
          clear HCL HWC
          go_upto_region 12 with fail
          obtain ⟨m2, hm2⟩ : ∃ m2, wrap64 (m + (u15.length : Int)) = m2 := ⟨_, rfl⟩
          rw [hm2]
          clear hm2 x15 hz15 c0 c1
          by_cases h5 : (2000 : Int) < m2
          · have d5 : decide ((2000 : Int) < m2) = true := decide_eq_true h5
            clear h5
            go_wp2_with fail
            refine (awake_calls _).mono ?_
            rintro e w1 ⟨rfl, hb1⟩
            have HB1 := Lib.hid (below_step (below_step HB0.out HBc.out) hb1)
            clear hb1
            go_wp2_with fail
            refine (awake_calls _).mono ?_
            rintro e w2 ⟨rfl, hb2⟩
            have HB2 := Lib.hid hb2
            clear hb2
            go_wp2_with fail
            go_ret
            exact ⟨rfl, below_step HB1.out HB2.out⟩
          · have d5 : decide ((2000 : Int) < m2) = false := decide_eq_false h5
            clear h5
            have b0 : (0 : Int) ≤ (j : Int) := by omega
            have b1 : (j : Int) < (L4 : Int) := by omega
            go_wp2_with fail
            go_roundw
            case rel => first | exact ⟨j + 1, _, by go_num, by omega, rfl, HBc.out⟩ | ((repeat apply Exists.intro); refine ⟨?_, rfl⟩; exact ⟨j + 1, _, by go_num, by omega, rfl, HBc.out⟩)
            case measure => simp [intOf]; omega
        · obtain rfl : j = L4 := by omega
          by_cases h5 : (2000 : Int) < m
          · have d5 : decide ((2000 : Int) < m) = true := decide_eq_true h5
            clear h5
            go_wp2_with fail
            refine (awake_calls _).mono ?_
            rintro e w1 ⟨rfl, hb1⟩
            have HB1 := Lib.hid (below_step (below_step HB0.out HBi.out) hb1)
            clear hb1
            go_wp2_with fail
            refine (awake_calls _).mono ?_
            rintro e w2 ⟨rfl, hb2⟩
            have HB2 := Lib.hid hb2
            clear hb2
            go_wp2_with fail
            go_ret
            exact ⟨rfl, below_step HB1.out HB2.out⟩
          · have d5 : decide ((2000 : Int) < m) = false := decide_eq_false h5
            clear h5
            go_wp2_with fail
            refine (awake_calls _).mono ?_
            rintro e w1 ⟨rfl, hb1⟩
            have hk0 := (HBi.out.block w.heap.size (by rw [HN.out]; omega)).trans HE.out
            have HK1 := Lib.hid ((hb1.block w.heap.size (blk_lt hk0)).trans hk0)
            have HB1 := Lib.hid (below_step (below_step HB0.out HBi.out) hb1)
            have HC1 := Lib.hid (HC.out.below HB1.out)
            clear hb1 hk0
            go_wp2_with ((with_reducible refine gate_load (t := 80) (p := .tmp 1) rfl ?_); refine wpList_load_whole (t := 80) rfl (.tmp 1) rfl (by rfl) Try.underlying80 (by kernel_rfl) HK1.out ?_)
            all_goals first
              | (refine (awake_calls _).mono ?_; rintro e w2 ⟨rfl, hb2⟩; have HB2 := Lib.hid hb2; clear hb2; go_wp2_with fail; go_ret; exact ⟨rfl, below_step HB1.out HB2.out⟩)
              | skip
            all_goals
              refine (Put_plan X _ _ _ HC1.out HOK.out HL.out).mono ?_
              rintro e w2 ⟨rfl, hb2⟩
              rw [HS.out]
              have HK2 := Lib.hid ((hb2.block w.heap.size (blk_lt HK1.out)).trans HK1.out)
              have HB2 := Lib.hid (below_step HB1.out hb2)
              have HC2 := Lib.hid (HC1.out.below hb2)
              clear hb2
              go_wp2_with fail
              refine (Get_plan S _ HSS.out).mono ?_
              rintro e w3 ⟨hb3, hr⟩
              rcases hr with ⟨x', cs', hx, rfl, hH⟩ | ⟨hx, rfl⟩
              · rw [HG.out] at hx
                injection hx with hx
                subst hx
                have hl := hH.len
                have h1 := all_one hH.one
                obtain ⟨u0, u1, u2, u3, u4, rfl⟩ : ∃ u0 u1 u2 u3 u4, cs' = [u0, u1, u2, u3, u4] := by
                  match cs', hl with
                  | [u0, u1, u2, u3, u4], _ => exact ⟨u0, u1, u2, u3, u4, rfl⟩
                have H1 := Lib.hid h1
                have hb4 : Below w3.heap.size w3 (w3.alloc (.cells #[u0, u1, u2, u3, u4] 80)) := (Below.refl _ _).alloc (Nat.le_refl _) _
                have HK4 := Lib.hid ((hb4.block w.heap.size (by have := hb3.size; have := blk_lt HK2.out; omega)).trans ((hb3.block w.heap.size (blk_lt HK2.out)).trans HK2.out))
                have HU4 := Lib.hid (blk_new w3 (.cells #[u0, u1, u2, u3, u4] 80))
                have HH4 := Lib.hid (hH.below hb4)
                have HC4 := Lib.hid ((HC2.out.below hb3).below hb4)
                have HB4 := Lib.hid (below_step (below_step HB2.out hb3) hb4)
                have HN4 := Lib.hid (show (w3.alloc (.cells #[u0, u1, u2, u3, u4] 80)).heap.size = w3.heap.size + 1 by simp)
                clear hb3 hb4 hH hl h1
                go_wp2_with (first | ((with_reducible refine gate_store (t := 80) (p := .tmp 9) (x := .tmp 75) rfl ?_); refine wpList_store_new (t := 80) rfl (.tmp 9) (.tmp 75) rfl #[u0, u1, u2, u3, u4] (by rfl) (by rfl) (by kernel_rfl) rfl H1.out ?_) | ((with_reducible refine gate_load (t := 80) (p := .tmp 1) rfl ?_); refine wpList_load_whole (t := 80) rfl (.tmp 1) rfl (by rfl) Try.underlying80 (by kernel_rfl) HK4.out ?_))
                refine (plan_ref X _ _ _ HC4.out HOK.out HL.out).mono ?_
                rintro e w5 ⟨rfl, hb5⟩
                rw [HS.out]
                have hk5 := (hb5.block w3.heap.size (by rw [HN4.out]; omega)).trans HU4.out
                have x0 : w5.cell? ⟨w3.heap.size, 0, none⟩ = some u0 := (blk_cell hk5 0).trans rfl
                have x1 : w5.cell? ⟨w3.heap.size, 1, none⟩ = some u1 := (blk_cell hk5 1).trans rfl
                have x2 : w5.cell? ⟨w3.heap.size, 2, none⟩ = some u2 := (blk_cell hk5 2).trans rfl
                have x3 : w5.cell? ⟨w3.heap.size, 3, none⟩ = some u3 := (blk_cell hk5 3).trans rfl
                have x4 : w5.cell? ⟨w3.heap.size, 4, none⟩ = some u4 := (blk_cell hk5 4).trans rfl
                have HH5 := Lib.hid (HH4.out.below hb5)
                have HB5 := Lib.hid (below_step HB4.out hb5)
                clear hb5 hk5
                go_wp2_with fail
                refine (plan_ref X [u0, u1, u2, u3, u4] _ _ HH5.out HOK.out HL.out).mono ?_
                rintro e w6 ⟨rfl, hb6⟩
                rw [HS.out]
                have HB6 := Lib.hid (below_step HB5.out hb6)
                clear hb6
                go_wp2_with fail
                go_ret
                exact ⟨rfl, HB6.out⟩
              · rw [HG.out] at hx
                cases hx
theorem wirePlans_walk (x : tPlan.T) (cs : List Value) (w : World) (hH : Holds w (fun _ => True) tPlan x cs) (hok : tPlan.cod.ok x) (hlen : (tPlan.cod.enc x).length ≤ 68719476736) :
    Calls Try.prog 8 #[.agg cs.toArray] w fun e w' => e = .returned (.bool true) ∧ Below w.heap.size w w' := by
  obtain ⟨⟨y0, y1⟩, ⟨y2, ⟨y3, y4⟩⟩⟩ := x
  exact wirePlans_walkL y0 y1 y2 y3 y4 cs w hH hok hlen
end Go.Proofs.Ytlcgkcmicklihaa.Wire
