/- The walk of the law WireCommands. -/
import Derived.Test.YtlcgkcmicklihaaAwake
import Derived.Test.YtlcgkcmicklihaaHCmd
import Derived.Test.YtlcgkcmicklihaaRCmd
namespace Go.Proofs.Ytlcgkcmicklihaa.Wire
set_option linter.unusedVariables false
set_option linter.unusedSimpArgs false
open Go.RowKit Go.Proofs.YtlcgkcmicklihaaW.PrintWords Go.Proofs.YtlcgkcmicklihaaW.PrintLast Go.Proofs.YtlcgkcmicklihaaW.PrintMore
set_option maxRecDepth 100000 in
set_option maxHeartbeats 16000000 in
theorem wireCommands_walkL (y0 : Int) (y1 : Int) (y2 : Int) (y3 : Int) (y4 : Int) (y5 : Int) (y6 : Int) (y7 : Int) (y8 : List tReading.T) (y9 : List tWrite.T) (y10 : Int) (y11 : Int) (y12 : Int) (y13 : Int) (y14 : Int) (y15 : Int) (y16 : ByteArray) (y17 : ByteArray) (y18 : ByteArray) (y19 : ByteArray) (y20 : Bool) (y21 : Int) (y22 : Int) (y23 : Int) (y24 : ByteArray) (y25 : List tColumn.T) (y26 : Int) (y27 : Int) (y28 : ByteArray) (y29 : Int) (cs : List Value) (w : World) (hH : Holds w (fun _ => True) tCommand (y0, ((y1, (y2, y3)), ((y4, (y5, y6)), (y7, (y8, (y9, ((y10, (y11, (y12, (y13, y14)))), ((y15, ((y16, (y17, (y18, y19))), (y20, (y21, ((y22, (y23, y24)), y25))))), ((y26, y27), (y28, y29)))))))))) cs) (hok : tCommand.cod.ok (y0, ((y1, (y2, y3)), ((y4, (y5, y6)), (y7, (y8, (y9, ((y10, (y11, (y12, (y13, y14)))), ((y15, ((y16, (y17, (y18, y19))), (y20, (y21, ((y22, (y23, y24)), y25))))), ((y26, y27), (y28, y29))))))))))) (hlen : (tCommand.cod.enc (y0, ((y1, (y2, y3)), ((y4, (y5, y6)), (y7, (y8, (y9, ((y10, (y11, (y12, (y13, y14)))), ((y15, ((y16, (y17, (y18, y19))), (y20, (y21, ((y22, (y23, y24)), y25))))), ((y26, y27), (y28, y29))))))))))).length ≤ 68719476736) :
    Calls Try.prog 7 #[.agg cs.toArray] w fun e w' => e = .returned (.bool true) ∧ Below w.heap.size w w' := by
  have HH0 := Lib.hid hH
  obtain ⟨ca1, cb1, rfl, ha1, hb1⟩ := Holds.pair_cell hH
  obtain rfl := Holds.int_cell ha1
  obtain ⟨ca2, cb2, rfl, ha2, hb2⟩ := Holds.pair_cell hb1
  obtain ⟨ca3, cb3, rfl, ha3, hb3⟩ := Holds.pair_cell ha2
  obtain rfl := Holds.int_cell ha3
  obtain ⟨ca4, cb4, rfl, ha4, hb4⟩ := Holds.pair_cell hb3
  obtain rfl := Holds.int_cell ha4
  obtain rfl := Holds.int_cell hb4
  obtain ⟨ca5, cb5, rfl, ha5, hb5⟩ := Holds.pair_cell hb2
  obtain ⟨ca6, cb6, rfl, ha6, hb6⟩ := Holds.pair_cell ha5
  obtain rfl := Holds.int_cell ha6
  obtain ⟨ca7, cb7, rfl, ha7, hb7⟩ := Holds.pair_cell hb6
  obtain rfl := Holds.int_cell ha7
  obtain rfl := Holds.int_cell hb7
  obtain ⟨ca8, cb8, rfl, ha8, hb8⟩ := Holds.pair_cell hb5
  obtain rfl := Holds.int_cell ha8
  obtain ⟨ca9, cb9, rfl, ha9, hb9⟩ := Holds.pair_cell hb8
  obtain ⟨A8, cap8, rfl, hh8⟩ := Holds.list_cell ha9
  obtain ⟨ca10, cb10, rfl, ha10, hb10⟩ := Holds.pair_cell hb9
  obtain ⟨A9, cap9, rfl, hh9⟩ := Holds.list_cell ha10
  obtain ⟨ca11, cb11, rfl, ha11, hb11⟩ := Holds.pair_cell hb10
  obtain ⟨ca12, cb12, rfl, ha12, hb12⟩ := Holds.pair_cell ha11
  obtain rfl := Holds.int_cell ha12
  obtain ⟨ca13, cb13, rfl, ha13, hb13⟩ := Holds.pair_cell hb12
  obtain rfl := Holds.int_cell ha13
  obtain ⟨ca14, cb14, rfl, ha14, hb14⟩ := Holds.pair_cell hb13
  obtain rfl := Holds.int_cell ha14
  obtain ⟨ca15, cb15, rfl, ha15, hb15⟩ := Holds.pair_cell hb14
  obtain rfl := Holds.int_cell ha15
  obtain rfl := Holds.int_cell hb15
  obtain ⟨ca16, cb16, rfl, ha16, hb16⟩ := Holds.pair_cell hb11
  obtain ⟨ca17, cb17, rfl, ha17, hb17⟩ := Holds.pair_cell ha16
  obtain rfl := Holds.int_cell ha17
  obtain ⟨ca18, cb18, rfl, ha18, hb18⟩ := Holds.pair_cell hb17
  obtain ⟨ca19, cb19, rfl, ha19, hb19⟩ := Holds.pair_cell ha18
  obtain rfl := Holds.str_cell ha19
  obtain ⟨ca20, cb20, rfl, ha20, hb20⟩ := Holds.pair_cell hb19
  obtain rfl := Holds.str_cell ha20
  obtain ⟨ca21, cb21, rfl, ha21, hb21⟩ := Holds.pair_cell hb20
  obtain rfl := Holds.str_cell ha21
  obtain rfl := Holds.str_cell hb21
  obtain ⟨ca22, cb22, rfl, ha22, hb22⟩ := Holds.pair_cell hb18
  obtain rfl := Holds.bool_cell ha22
  obtain ⟨ca23, cb23, rfl, ha23, hb23⟩ := Holds.pair_cell hb22
  obtain rfl := Holds.int_cell ha23
  obtain ⟨ca24, cb24, rfl, ha24, hb24⟩ := Holds.pair_cell hb23
  obtain ⟨ca25, cb25, rfl, ha25, hb25⟩ := Holds.pair_cell ha24
  obtain rfl := Holds.int_cell ha25
  obtain ⟨ca26, cb26, rfl, ha26, hb26⟩ := Holds.pair_cell hb25
  obtain rfl := Holds.int_cell ha26
  obtain rfl := Holds.str_cell hb26
  obtain ⟨A25, cap25, rfl, hh25⟩ := Holds.list_cell hb24
  obtain ⟨ca27, cb27, rfl, ha27, hb27⟩ := Holds.pair_cell hb16
  obtain ⟨ca28, cb28, rfl, ha28, hb28⟩ := Holds.pair_cell ha27
  obtain rfl := Holds.int_cell ha28
  obtain rfl := Holds.int_cell hb28
  obtain ⟨ca29, cb29, rfl, ha29, hb29⟩ := Holds.pair_cell hb27
  obtain rfl := Holds.str_cell ha29
  obtain rfl := Holds.int_cell hb29
  obtain ⟨L0, hL0⟩ : ∃ n, y8.length = n := ⟨_, rfl⟩
  have hm0 : y8.length ≤ 9223372036854775807 := hok.2.2.2.2.1.1
  have hm1 : y9.length ≤ 9223372036854775807 := hok.2.2.2.2.2.1.1
  have hm2 : y25.length ≤ 9223372036854775807 := hok.2.2.2.2.2.2.2.1.2.2.2.2.2.1
  have hk0 := hok.2.2.2.2.1.2
  obtain ⟨X, hC, hokX, hlenX⟩ : ∃ X : tCommand.T, Holds w (fun _ => True) tCommand X [.int .i64 y0, .int .i64 y1, .int .i64 y2, .int .i64 y3, .int .i64 y4, .int .i64 y5, .int .i64 y6, .int .i64 y7, .slice A8 y8.length cap8, .slice A9 y9.length cap9, .int .i64 y10, .int .i64 y11, .int .i64 y12, .int .i64 y13, .int .i64 y14, .int .i64 y15, .string y16, .string y17, .string y18, .string y19, .bool y20, .int .i64 y21, .int .i64 y22, .int .i64 y23, .string y24, .slice A25 y25.length cap25, .int .i64 y26, .int .i64 y27, .string y28, .int .i64 y29] ∧ tCommand.cod.ok X ∧ (tCommand.cod.enc X).length ≤ 68719476736 := ⟨(y0, ((y1, (y2, y3)), ((y4, (y5, y6)), (y7, (y8, (y9, ((y10, (y11, (y12, (y13, y14)))), ((y15, ((y16, (y17, (y18, y19))), (y20, (y21, ((y22, (y23, y24)), y25))))), ((y26, y27), (y28, y29)))))))))), HH0.out, hok, hlen⟩
  clear HH0 hH hok hlen hh9 hh25 ha1 hb1 ha2 ha3 hb3 ha4 hb4 hb2 ha5 ha6 hb6 ha7 hb7 hb5 ha8 hb8 ha9 hb9 ha10 hb10 ha11 ha12 hb12 ha13 hb13 ha14 hb14 ha15 hb15 hb11 ha16 ha17 hb17 ha18 ha19 hb19 ha20 hb20 ha21 hb21 hb18 ha22 hb22 ha23 hb23 ha24 ha25 hb25 ha26 hb26 hb24 hb16 ha27 ha28 hb28 hb27 ha29 hb29
  rw [hL0] at hh8 hm0 hC
  rw [hL0]
  have hs := get_enc tCommand.cod X hokX
  obtain ⟨S, hS⟩ : ∃ S, mkb (tCommand.cod.enc X) = S := ⟨_, rfl⟩
  have hss : S.size ≤ 68719476736 := by rw [← hS, mkb_size]; exact hlenX
  have hsd : S.data.toList = tCommand.cod.enc X := by rw [← hS, mkb_data]
  rw [← hsd] at hs
  have e0 := blk_new w (.cells #[.int .i64 y0, .int .i64 y1, .int .i64 y2, .int .i64 y3, .int .i64 y4, .int .i64 y5, .int .i64 y6, .int .i64 y7, .slice A8 L0 cap8, .slice A9 y9.length cap9, .int .i64 y10, .int .i64 y11, .int .i64 y12, .int .i64 y13, .int .i64 y14, .int .i64 y15, .string y16, .string y17, .string y18, .string y19, .bool y20, .int .i64 y21, .int .i64 y22, .int .i64 y23, .string y24, .slice A25 y25.length cap25, .int .i64 y26, .int .i64 y27, .string y28, .int .i64 y29] 64)
  have hb0 : Below w.heap.size w (w.alloc (.cells #[.int .i64 y0, .int .i64 y1, .int .i64 y2, .int .i64 y3, .int .i64 y4, .int .i64 y5, .int .i64 y6, .int .i64 y7, .slice A8 L0 cap8, .slice A9 y9.length cap9, .int .i64 y10, .int .i64 y11, .int .i64 y12, .int .i64 y13, .int .i64 y14, .int .i64 y15, .string y16, .string y17, .string y18, .string y19, .bool y20, .int .i64 y21, .int .i64 y22, .int .i64 y23, .string y24, .slice A25 y25.length cap25, .int .i64 y26, .int .i64 y27, .string y28, .int .i64 y29] 64)) := (Below.refl _ _).alloc (Nat.le_refl _) _
  have hN : (w.alloc (.cells #[.int .i64 y0, .int .i64 y1, .int .i64 y2, .int .i64 y3, .int .i64 y4, .int .i64 y5, .int .i64 y6, .int .i64 y7, .slice A8 L0 cap8, .slice A9 y9.length cap9, .int .i64 y10, .int .i64 y11, .int .i64 y12, .int .i64 y13, .int .i64 y14, .int .i64 y15, .string y16, .string y17, .string y18, .string y19, .bool y20, .int .i64 y21, .int .i64 y22, .int .i64 y23, .string y24, .slice A25 y25.length cap25, .int .i64 y26, .int .i64 y27, .string y28, .int .i64 y29] 64)).heap.size = w.heap.size + 1 := by simp
  obtain ⟨wb, hwb⟩ : ∃ wb, w.alloc (.cells #[.int .i64 y0, .int .i64 y1, .int .i64 y2, .int .i64 y3, .int .i64 y4, .int .i64 y5, .int .i64 y6, .int .i64 y7, .slice A8 L0 cap8, .slice A9 y9.length cap9, .int .i64 y10, .int .i64 y11, .int .i64 y12, .int .i64 y13, .int .i64 y14, .int .i64 y15, .string y16, .string y17, .string y18, .string y19, .bool y20, .int .i64 y21, .int .i64 y22, .int .i64 y23, .string y24, .slice A25 y25.length cap25, .int .i64 y26, .int .i64 y27, .string y28, .int .i64 y29] 64) = wb := ⟨_, rfl⟩
  rw [hwb] at e0 hb0 hN
  have HC := Lib.hid hC
  have HOK := Lib.hid hokX
  have HL := Lib.hid hlenX
  have HG := Lib.hid hs
  have HS := Lib.hid hS
  have HSS := Lib.hid hss
  have HE := Lib.hid e0
  have HB0 := Lib.hid hb0
  have HN := Lib.hid hN
  have HK0 := Lib.hid hk0
  have HL0 := Lib.hid hL0
  have HR0 := Lib.hid hh8
  have HWB := Lib.hid hwb
  have q8 : wb.cell? ⟨w.heap.size, 8, none⟩ = some (.slice A8 L0 cap8) := (blk_cell e0 8).trans rfl
  have q9 : wb.cell? ⟨w.heap.size, 9, none⟩ = some (.slice A9 y9.length cap9) := (blk_cell e0 9).trans rfl
  have q25 : wb.cell? ⟨w.heap.size, 25, none⟩ = some (.slice A25 y25.length cap25) := (blk_cell e0 25).trans rfl
  clear hC hokX hlenX hs hS hss hsd e0 hb0 hN hk0 hL0 hh8 hwb
  show Calls Try.prog 7 #[.agg #[.int .i64 y0, .int .i64 y1, .int .i64 y2, .int .i64 y3, .int .i64 y4, .int .i64 y5, .int .i64 y6, .int .i64 y7, .slice A8 L0 cap8, .slice A9 y9.length cap9, .int .i64 y10, .int .i64 y11, .int .i64 y12, .int .i64 y13, .int .i64 y14, .int .i64 y15, .string y16, .string y17, .string y18, .string y19, .bool y20, .int .i64 y21, .int .i64 y22, .int .i64 y23, .string y24, .slice A25 y25.length cap25, .int .i64 y26, .int .i64 y27, .string y28, .int .i64 y29]] w _
  go_enter Try.func7, Try.ntmps7
  go_upto_region 1 with fail
  rw [HWB.out]
  go_wp2_with fail
  clear q8 q9 q25
  go_loopw [3, 24] (fun v3 v24 wr => ∃ (k : Nat) (n : Int), v24 = .int .i64 (k : Int) ∧ k ≤ L0 ∧ v3 = .int .i64 n ∧ Below wb.heap.size wb wr) (fun _ v24 _ => L0 - (intOf v24).toNat)
  case atStart => exact ⟨0, _, rfl, by omega, rfl, Below.refl _ _⟩
  case round =>
    obtain ⟨k, n, rfl, hk, rfl, hb⟩ := hrel
    have HB := Lib.hid hb
    have HX := Lib.hid (below_step HB0.out hb)
    clear hb
    by_cases hlt : k < L0
    · obtain ⟨z, hz⟩ : ∃ z, y8[k]? = some z := ⟨_, List.getElem?_eq_getElem (by rw [HL0.out]; exact hlt)⟩
      obtain ⟨bb, bo, ds, rfl, hokb, hHz, hds⟩ := HR0.out.list_at hz
      have hzok := HK0.out _ (List.mem_of_getElem? hz)
      obtain ⟨z0, z1, z2, rfl⟩ : ∃ (z0 z1 : ByteArray) (z2 : List tStamp.T), z = ((z0, z1), z2) := ⟨z.1.1, z.1.2, z.2, rfl⟩
      obtain ⟨caz1, cbz1, rfl, haz1, hbz1⟩ := Holds.pair_cell hHz
      obtain ⟨caz2, cbz2, rfl, haz2, hbz2⟩ := Holds.pair_cell haz1
      obtain rfl := Holds.str_cell haz2
      obtain rfl := Holds.str_cell hbz2
      obtain ⟨Az2, capz2, rfl, hhz2⟩ := Holds.list_cell hbz1
      have n0 := keep1 (show w.cell? ⟨bb, bo + k * 3, none⟩ = some (.string z0) from hds 0 _ rfl) HX.out
      have n1 := keep1 (show w.cell? ⟨bb, bo + k * 3 + 1, none⟩ = some (.string z1) from hds 1 _ rfl) HX.out
      have n2 := keep1 (show w.cell? ⟨bb, bo + k * 3 + 2, none⟩ = some (.slice Az2 z2.length capz2) from hds 2 _ rfl) HX.out
      have hzl : z2.length ≤ 9223372036854775807 := hzok.2.1
      clear hz hokb hHz hds hzok hhz2 haz1 haz2 hbz2 hbz1
      have c0 : (0 : Int) ≤ (k : Int) := by omega
      have c1 : (k : Int) < (L0 : Int) := by omega
      have hbw : Below wr.heap.size wr (wr.alloc (.cells #[.string z0, .string z1, .slice Az2 z2.length capz2] 69)) := (Below.refl _ _).alloc (Nat.le_refl _) _
      have hkk := blk_new wr (.cells #[.string z0, .string z1, .slice Az2 z2.length capz2] 69)
      obtain ⟨wc, hwc⟩ : ∃ wc, wr.alloc (.cells #[.string z0, .string z1, .slice Az2 z2.length capz2] 69) = wc := ⟨_, rfl⟩
      rw [hwc] at hbw hkk
      have x2 : wc.cell? ⟨wr.heap.size, 2, none⟩ = some (.slice Az2 z2.length capz2) := (blk_cell hkk 2).trans rfl
      have HBc := Lib.hid (below_step HB.out hbw)
      have HWC := Lib.hid hwc
      clear hbw hkk hwc
      go_upto_region 5 with fail
      rw [HWC.out]
      go_upto_region 6 with fail
      obtain ⟨m2, hn2⟩ : ∃ m2, wrap64 (n + (z2.length : Int)) = m2 := ⟨_, rfl⟩
      rw [hn2]
      clear hn2 x2 hzl n0 n1 c0 c1
      by_cases h5 : (2000 : Int) < m2
      · have d5 : decide ((2000 : Int) < m2) = true := decide_eq_true h5
        clear h5
        go_wp2_with fail
        refine (awake_calls _).mono ?_
        rintro e w1 ⟨rfl, hb1⟩
        have HB1 := Lib.hid (below_step (below_step HB0.out HBc.out) hb1)
        clear hb1
        go_wp2_with fail
        refine (awake_calls _).mono ?_
        rintro e w2 ⟨rfl, hb2⟩
        have HB2 := Lib.hid hb2
        clear hb2
        go_wp2_with fail
        go_ret
        exact ⟨rfl, below_step HB1.out HB2.out⟩
      · have d5 : decide ((2000 : Int) < m2) = false := decide_eq_false h5
        clear h5
        have b0 : (0 : Int) ≤ (k : Int) := by omega
        have b1 : (k : Int) < (L0 : Int) := by omega
        go_wp2_with fail
        refine ⟨⟨k + 1, _, by go_num, by omega, rfl, HBc.out⟩, by simp [intOf]; omega⟩
    · obtain rfl : k = L0 := by omega
      by_cases h5 : (2000 : Int) < n
      · have d5 : decide ((2000 : Int) < n) = true := decide_eq_true h5
        clear h5
        go_wp2_with fail
        refine (awake_calls _).mono ?_
        rintro e w1 ⟨rfl, hb1⟩
        have HB1 := Lib.hid (below_step (below_step HB0.out HB.out) hb1)
        clear hb1
        go_wp2_with fail
        refine (awake_calls _).mono ?_
        rintro e w2 ⟨rfl, hb2⟩
        have HB2 := Lib.hid hb2
        clear hb2
        go_wp2_with fail
        go_ret
        exact ⟨rfl, below_step HB1.out HB2.out⟩
      · have d5 : decide ((2000 : Int) < n) = false := decide_eq_false h5
        clear h5
        go_wp2_with fail
        refine (awake_calls _).mono ?_
        rintro e w1 ⟨rfl, hb1⟩
        have hk0 := (HB.out.block w.heap.size (by rw [HN.out]; omega)).trans HE.out
        have HK1 := Lib.hid ((hb1.block w.heap.size (blk_lt hk0)).trans hk0)
        have HB1 := Lib.hid (below_step (below_step HB0.out HB.out) hb1)
        have HC1 := Lib.hid (HC.out.below HB1.out)
        clear hb1 hk0
        go_wp2_with ((with_reducible refine gate_load (t := 64) (p := .tmp 1) rfl ?_); refine wpList_load_whole (t := 64) rfl (.tmp 1) rfl (by rfl) Try.underlying64 (by kernel_rfl) HK1.out ?_)
        all_goals first
          | (refine (awake_calls _).mono ?_; rintro e w2 ⟨rfl, hb2⟩; have HB2 := Lib.hid hb2; clear hb2; go_wp2_with fail; go_ret; exact ⟨rfl, below_step HB1.out HB2.out⟩)
          | skip
        all_goals
          refine (Put_command X _ _ _ HC1.out HOK.out HL.out).mono ?_
          rintro e w2 ⟨rfl, hb2⟩
          rw [HS.out]
          have HK2 := Lib.hid ((hb2.block w.heap.size (blk_lt HK1.out)).trans HK1.out)
          have HB2 := Lib.hid (below_step HB1.out hb2)
          have HC2 := Lib.hid (HC1.out.below hb2)
          clear hb2
          go_wp2_with fail
          refine (Get_command S _ HSS.out).mono ?_
          rintro e w3 ⟨hb3, hr⟩
          rcases hr with ⟨x', cs', hx, rfl, hH⟩ | ⟨hx, rfl⟩
          · rw [HG.out] at hx
            injection hx with hx
            subst hx
            have hl := hH.len
            have h1 := all_one hH.one
            obtain ⟨u0, u1, u2, u3, u4, u5, u6, u7, u8, u9, u10, u11, u12, u13, u14, u15, u16, u17, u18, u19, u20, u21, u22, u23, u24, u25, u26, u27, u28, u29, rfl⟩ : ∃ u0 u1 u2 u3 u4 u5 u6 u7 u8 u9 u10 u11 u12 u13 u14 u15 u16 u17 u18 u19 u20 u21 u22 u23 u24 u25 u26 u27 u28 u29, cs' = [u0, u1, u2, u3, u4, u5, u6, u7, u8, u9, u10, u11, u12, u13, u14, u15, u16, u17, u18, u19, u20, u21, u22, u23, u24, u25, u26, u27, u28, u29] := by
              match cs', hl with
              | [u0, u1, u2, u3, u4, u5, u6, u7, u8, u9, u10, u11, u12, u13, u14, u15, u16, u17, u18, u19, u20, u21, u22, u23, u24, u25, u26, u27, u28, u29], _ => exact ⟨u0, u1, u2, u3, u4, u5, u6, u7, u8, u9, u10, u11, u12, u13, u14, u15, u16, u17, u18, u19, u20, u21, u22, u23, u24, u25, u26, u27, u28, u29, rfl⟩
            have H1 := Lib.hid h1
            have hb4 : Below w3.heap.size w3 (w3.alloc (.cells #[u0, u1, u2, u3, u4, u5, u6, u7, u8, u9, u10, u11, u12, u13, u14, u15, u16, u17, u18, u19, u20, u21, u22, u23, u24, u25, u26, u27, u28, u29] 64)) := (Below.refl _ _).alloc (Nat.le_refl _) _
            have HK4 := Lib.hid ((hb4.block w.heap.size (by have := hb3.size; have := blk_lt HK2.out; omega)).trans ((hb3.block w.heap.size (blk_lt HK2.out)).trans HK2.out))
            have HU4 := Lib.hid (blk_new w3 (.cells #[u0, u1, u2, u3, u4, u5, u6, u7, u8, u9, u10, u11, u12, u13, u14, u15, u16, u17, u18, u19, u20, u21, u22, u23, u24, u25, u26, u27, u28, u29] 64))
            have HH4 := Lib.hid (hH.below hb4)
            have HC4 := Lib.hid ((HC2.out.below hb3).below hb4)
            have HB4 := Lib.hid (below_step (below_step HB2.out hb3) hb4)
            have HN4 := Lib.hid (show (w3.alloc (.cells #[u0, u1, u2, u3, u4, u5, u6, u7, u8, u9, u10, u11, u12, u13, u14, u15, u16, u17, u18, u19, u20, u21, u22, u23, u24, u25, u26, u27, u28, u29] 64)).heap.size = w3.heap.size + 1 by simp)
            clear hb3 hb4 hH hl h1
            go_wp2_with (first | ((with_reducible refine gate_store (t := 64) (p := .tmp 7) (x := .tmp 48) rfl ?_); refine wpList_store_new (t := 64) rfl (.tmp 7) (.tmp 48) rfl #[u0, u1, u2, u3, u4, u5, u6, u7, u8, u9, u10, u11, u12, u13, u14, u15, u16, u17, u18, u19, u20, u21, u22, u23, u24, u25, u26, u27, u28, u29] (by rfl) (by rfl) (by kernel_rfl) rfl H1.out ?_) | ((with_reducible refine gate_load (t := 64) (p := .tmp 1) rfl ?_); refine wpList_load_whole (t := 64) rfl (.tmp 1) rfl (by rfl) Try.underlying64 (by kernel_rfl) HK4.out ?_))
            refine (command_ref X _ _ _ HC4.out HOK.out HL.out).mono ?_
            rintro e w5 ⟨rfl, hb5⟩
            rw [HS.out]
            have hk5 := (hb5.block w3.heap.size (by rw [HN4.out]; omega)).trans HU4.out
            have HK5 := Lib.hid hk5
            have HH5 := Lib.hid (HH4.out.below hb5)
            have HB5 := Lib.hid (below_step HB4.out hb5)
            clear hb5 hk5
            go_wp2_with ((with_reducible refine gate_load (t := 64) (p := .tmp 7) rfl ?_); refine wpList_load_wholeG (t := 64) (by rfl) (.tmp 7) rfl (by rfl) Try.underlying64 (by kernel_rfl) HK5.out ?_)
            refine (command_ref X [u0, u1, u2, u3, u4, u5, u6, u7, u8, u9, u10, u11, u12, u13, u14, u15, u16, u17, u18, u19, u20, u21, u22, u23, u24, u25, u26, u27, u28, u29] _ _ HH5.out HOK.out HL.out).mono ?_
            rintro e w6 ⟨rfl, hb6⟩
            rw [HS.out]
            have HB6 := Lib.hid (below_step HB5.out hb6)
            clear hb6
            go_wp2_with fail
            go_ret
            exact ⟨rfl, HB6.out⟩
          · rw [HG.out] at hx
            cases hx
theorem wireCommands_walk (x : tCommand.T) (cs : List Value) (w : World) (hH : Holds w (fun _ => True) tCommand x cs) (hok : tCommand.cod.ok x) (hlen : (tCommand.cod.enc x).length ≤ 68719476736) :
    Calls Try.prog 7 #[.agg cs.toArray] w fun e w' => e = .returned (.bool true) ∧ Below w.heap.size w w' := by
  obtain ⟨y0, ⟨⟨y1, ⟨y2, y3⟩⟩, ⟨⟨y4, ⟨y5, y6⟩⟩, ⟨y7, ⟨y8, ⟨y9, ⟨⟨y10, ⟨y11, ⟨y12, ⟨y13, y14⟩⟩⟩⟩, ⟨⟨y15, ⟨⟨y16, ⟨y17, ⟨y18, y19⟩⟩⟩, ⟨y20, ⟨y21, ⟨⟨y22, ⟨y23, y24⟩⟩, y25⟩⟩⟩⟩⟩, ⟨⟨y26, y27⟩, ⟨y28, y29⟩⟩⟩⟩⟩⟩⟩⟩⟩⟩ := x
  exact wireCommands_walkL y0 y1 y2 y3 y4 y5 y6 y7 y8 y9 y10 y11 y12 y13 y14 y15 y16 y17 y18 y19 y20 y21 y22 y23 y24 y25 y26 y27 y28 y29 cs w hH hok hlen
end Go.Proofs.Ytlcgkcmicklihaa.Wire
