/- The walk of the law WireCuts. -/
import Derived.Test.YtlcgkcmicklihaaAwake
namespace Go.Proofs.Ytlcgkcmicklihaa.Wire
set_option linter.unusedVariables false
set_option linter.unusedSimpArgs false
open Go.RowKit Go.Proofs.YtlcgkcmicklihaaW.PrintWords Go.Proofs.YtlcgkcmicklihaaW.PrintLast Go.Proofs.YtlcgkcmicklihaaW.PrintMore
theorem cuts_some {X : tMsg.T} {S : ByteArray} (hok : tMsg.cod.ok X) (hS : S.data.toList = tMsg.cod.enc X) : ¬ get tMsg.cod (S ++ (⟨#[]⟩ : ByteArray)).data.toList = none := by
  have e : (S ++ (⟨#[]⟩ : ByteArray)).data.toList = tMsg.cod.enc X := by
    rw [ByteArray.data_append, Array.toList_append, hS]
    simp
  rw [e, get_enc tMsg.cod X hok]
  simp
theorem cuts_none {X x' : tMsg.T} {S more : ByteArray} (hok : tMsg.cod.ok X) (hS : S.data.toList = tMsg.cod.enc X) (hm : ¬ more.data.toList = []) : ¬ get tMsg.cod (S ++ more).data.toList = some x' := by
  have e : (S ++ more).data.toList = tMsg.cod.enc X ++ more.data.toList := by
    rw [ByteArray.data_append, Array.toList_append, hS]
  have h := get_more tMsg.cod X hok more.data.toList
  rw [decide_eq_false hm] at h
  rw [e]
  intro he
  rw [he] at h
  cases h
theorem cuts_cut {X x' : tMsg.T} {S : ByteArray} {c : Nat} (hok : tMsg.cod.ok X) (hS : S.data.toList = tMsg.cod.enc X) (hc : c < S.data.toList.length) (ht : S.data.toList.length ≤ 34359738368) : ¬ get tMsg.cod (S.extract 0 c).data.toList = some x' := by
  have e : (S.extract 0 c).data.toList = (tMsg.cod.enc X).take c := by
    rw [ByteArray.data_extract, Array.toList_extract, List.extract_eq_drop_take', hS]
    simp
  rw [hS] at hc ht
  rw [e, get_cut tMsg.cod X hok c hc (Nat.le_trans ht (by decide))]
  intro h
  cases h
theorem ref_of {f : Nat} {t : Ty} (h : ∀ (x : t.T) (cs : List Value) (ok : Nat → Prop) (w : World), Holds w ok t x cs → t.cod.ok x → (t.cod.enc x).length ≤ 68719476736 →
      Calls Try.prog f #[.agg cs.toArray] w fun e w' => e = .returned (.string (mkb (t.cod.enc x))) ∧ Below w.heap.size w w')
    (x : t.T) (cs : List Value) (S : ByteArray) (hS : mkb (t.cod.enc x) = S) (ok : Nat → Prop) (w : World) (hH : Holds w ok t x cs) (hok : t.cod.ok x) (hl : (t.cod.enc x).length ≤ 68719476736) :
    Calls Try.prog f #[.agg cs.toArray] w fun e w' => e = .returned (.string S) ∧ Below w.heap.size w w' := by
  subst hS
  exact h x cs ok w hH hok hl
set_option maxRecDepth 100000 in
set_option maxHeartbeats 16000000 in
theorem wireCuts_walkL (y0 : Int) (y1 : Int) (y2 : Int) (y3 : Int) (y4 : Int) (y5 : Int) (y6 : Int) (y7 : Bool) (y8 : List tEntry.T) (y9 : ByteArray) (z0 : Int) (z1 : Int) (z2 : Int) (z3 : Int) (z4 : Int) (z5 : Int) (z6 : Int) (z7 : Bool) (z8 : List tEntry.T) (z9 : ByteArray) (cm cn : List Value) (cut : Int) (more : ByteArray) (w : World) (hHm : Holds w (fun _ => True) tMsg ((y0, (y1, (y2, (y3, (y4, (y5, y6)))))), (y7, (y8, y9))) cm) (hHn : Holds w (fun _ => True) tMsg ((z0, (z1, (z2, (z3, (z4, (z5, z6)))))), (z7, (z8, z9))) cn) (hokm : tMsg.cod.ok ((y0, (y1, (y2, (y3, (y4, (y5, y6)))))), (y7, (y8, y9)))) (hokn : tMsg.cod.ok ((z0, (z1, (z2, (z3, (z4, (z5, z6)))))), (z7, (z8, z9))))
    (hlm : (tMsg.cod.enc ((y0, (y1, (y2, (y3, (y4, (y5, y6)))))), (y7, (y8, y9)))).length ≤ 34359738368) (hln : (tMsg.cod.enc ((z0, (z1, (z2, (z3, (z4, (z5, z6)))))), (z7, (z8, z9)))).length ≤ 34359738368) (hmore : more.size ≤ 34359738368) :
    Calls Try.prog 4 #[.agg cm.toArray, .agg cn.toArray, .int .i64 cut, .string more] w fun e w' => e = .returned (.bool true) ∧ Below w.heap.size w w' := by
  have HH0 := Lib.hid hHm
  have HH1 := Lib.hid hHn
  obtain ⟨ca1, cb1, rfl, ha1, hb1⟩ := Holds.pair_cell hHm
  obtain ⟨ca2, cb2, rfl, ha2, hb2⟩ := Holds.pair_cell ha1
  obtain rfl := Holds.int_cell ha2
  obtain ⟨ca3, cb3, rfl, ha3, hb3⟩ := Holds.pair_cell hb2
  obtain rfl := Holds.int_cell ha3
  obtain ⟨ca4, cb4, rfl, ha4, hb4⟩ := Holds.pair_cell hb3
  obtain rfl := Holds.int_cell ha4
  obtain ⟨ca5, cb5, rfl, ha5, hb5⟩ := Holds.pair_cell hb4
  obtain rfl := Holds.int_cell ha5
  obtain ⟨ca6, cb6, rfl, ha6, hb6⟩ := Holds.pair_cell hb5
  obtain rfl := Holds.int_cell ha6
  obtain ⟨ca7, cb7, rfl, ha7, hb7⟩ := Holds.pair_cell hb6
  obtain rfl := Holds.int_cell ha7
  obtain rfl := Holds.int_cell hb7
  obtain ⟨ca8, cb8, rfl, ha8, hb8⟩ := Holds.pair_cell hb1
  obtain rfl := Holds.bool_cell ha8
  obtain ⟨ca9, cb9, rfl, ha9, hb9⟩ := Holds.pair_cell hb8
  obtain ⟨A8, cap8, rfl, hh8⟩ := Holds.list_cell ha9
  obtain rfl := Holds.str_cell hb9
  obtain ⟨caz1, cbz1, rfl, haz1, hbz1⟩ := Holds.pair_cell hHn
  obtain ⟨caz2, cbz2, rfl, haz2, hbz2⟩ := Holds.pair_cell haz1
  obtain rfl := Holds.int_cell haz2
  obtain ⟨caz3, cbz3, rfl, haz3, hbz3⟩ := Holds.pair_cell hbz2
  obtain rfl := Holds.int_cell haz3
  obtain ⟨caz4, cbz4, rfl, haz4, hbz4⟩ := Holds.pair_cell hbz3
  obtain rfl := Holds.int_cell haz4
  obtain ⟨caz5, cbz5, rfl, haz5, hbz5⟩ := Holds.pair_cell hbz4
  obtain rfl := Holds.int_cell haz5
  obtain ⟨caz6, cbz6, rfl, haz6, hbz6⟩ := Holds.pair_cell hbz5
  obtain rfl := Holds.int_cell haz6
  obtain ⟨caz7, cbz7, rfl, haz7, hbz7⟩ := Holds.pair_cell hbz6
  obtain rfl := Holds.int_cell haz7
  obtain rfl := Holds.int_cell hbz7
  obtain ⟨caz8, cbz8, rfl, haz8, hbz8⟩ := Holds.pair_cell hbz1
  obtain rfl := Holds.bool_cell haz8
  obtain ⟨caz9, cbz9, rfl, haz9, hbz9⟩ := Holds.pair_cell hbz8
  obtain ⟨Az8, capz8, rfl, hhz8⟩ := Holds.list_cell haz9
  obtain rfl := Holds.str_cell hbz9
  have hll : y8.length ≤ 9223372036854775807 := hokm.2.2.1.1
  have hllz : z8.length ≤ 9223372036854775807 := hokn.2.2.1.1
  obtain ⟨X, hC, hokX, hlenX⟩ : ∃ X : tMsg.T, Holds w (fun _ => True) tMsg X [.int .i64 y0, .int .i64 y1, .int .i64 y2, .int .i64 y3, .int .i64 y4, .int .i64 y5, .int .i64 y6, .bool y7, .slice A8 y8.length cap8, .string y9] ∧ tMsg.cod.ok X ∧ (tMsg.cod.enc X).length ≤ 34359738368 := ⟨((y0, (y1, (y2, (y3, (y4, (y5, y6)))))), (y7, (y8, y9))), HH0.out, hokm, hlm⟩
  obtain ⟨Y, hD, hokY, hlenY⟩ : ∃ Y : tMsg.T, Holds w (fun _ => True) tMsg Y [.int .i64 z0, .int .i64 z1, .int .i64 z2, .int .i64 z3, .int .i64 z4, .int .i64 z5, .int .i64 z6, .bool z7, .slice Az8 z8.length capz8, .string z9] ∧ tMsg.cod.ok Y ∧ (tMsg.cod.enc Y).length ≤ 34359738368 := ⟨((z0, (z1, (z2, (z3, (z4, (z5, z6)))))), (z7, (z8, z9))), HH1.out, hokn, hln⟩
  clear HH0 HH1 hHm hHn hokm hokn hlm hln ha1 ha2 hb2 ha3 hb3 ha4 hb4 ha5 hb5 ha6 hb6 ha7 hb7 hb1 ha8 hb8 ha9 hb9 haz1 haz2 hbz2 haz3 hbz3 haz4 hbz4 haz5 hbz5 haz6 hbz6 haz7 hbz7 hbz1 haz8 hbz8 haz9 hbz9 hh8 hhz8
  obtain ⟨S, hS⟩ : ∃ S, mkb (tMsg.cod.enc X) = S := ⟨_, rfl⟩
  obtain ⟨R, hR⟩ : ∃ R, mkb (tMsg.cod.enc Y) = R := ⟨_, rfl⟩
  have hss : S.size ≤ 34359738368 := by rw [← hS, mkb_size]; exact hlenX
  have hsd : S.data.toList = tMsg.cod.enc X := by rw [← hS, mkb_data]
  have e0 := blk_new w (.cells #[.int .i64 y0, .int .i64 y1, .int .i64 y2, .int .i64 y3, .int .i64 y4, .int .i64 y5, .int .i64 y6, .bool y7, .slice A8 y8.length cap8, .string y9] 24)
  have hb0 : Below w.heap.size w (w.alloc (.cells #[.int .i64 y0, .int .i64 y1, .int .i64 y2, .int .i64 y3, .int .i64 y4, .int .i64 y5, .int .i64 y6, .bool y7, .slice A8 y8.length cap8, .string y9] 24)) := (Below.refl _ _).alloc (Nat.le_refl _) _
  have hN : (w.alloc (.cells #[.int .i64 y0, .int .i64 y1, .int .i64 y2, .int .i64 y3, .int .i64 y4, .int .i64 y5, .int .i64 y6, .bool y7, .slice A8 y8.length cap8, .string y9] 24)).heap.size = w.heap.size + 1 := by simp
  have e1 := blk_new (w.alloc (.cells #[.int .i64 y0, .int .i64 y1, .int .i64 y2, .int .i64 y3, .int .i64 y4, .int .i64 y5, .int .i64 y6, .bool y7, .slice A8 y8.length cap8, .string y9] 24)) (.cells #[.int .i64 z0, .int .i64 z1, .int .i64 z2, .int .i64 z3, .int .i64 z4, .int .i64 z5, .int .i64 z6, .bool z7, .slice Az8 z8.length capz8, .string z9] 24)
  have hb1 : Below (w.alloc (.cells #[.int .i64 y0, .int .i64 y1, .int .i64 y2, .int .i64 y3, .int .i64 y4, .int .i64 y5, .int .i64 y6, .bool y7, .slice A8 y8.length cap8, .string y9] 24)).heap.size (w.alloc (.cells #[.int .i64 y0, .int .i64 y1, .int .i64 y2, .int .i64 y3, .int .i64 y4, .int .i64 y5, .int .i64 y6, .bool y7, .slice A8 y8.length cap8, .string y9] 24)) ((w.alloc (.cells #[.int .i64 y0, .int .i64 y1, .int .i64 y2, .int .i64 y3, .int .i64 y4, .int .i64 y5, .int .i64 y6, .bool y7, .slice A8 y8.length cap8, .string y9] 24)).alloc (.cells #[.int .i64 z0, .int .i64 z1, .int .i64 z2, .int .i64 z3, .int .i64 z4, .int .i64 z5, .int .i64 z6, .bool z7, .slice Az8 z8.length capz8, .string z9] 24)) := (Below.refl _ _).alloc (Nat.le_refl _) _
  have e2 := (hb1.block w.heap.size (by rw [hN]; omega)).trans e0
  rw [hN] at e1
  have hN2 : ((w.alloc (.cells #[.int .i64 y0, .int .i64 y1, .int .i64 y2, .int .i64 y3, .int .i64 y4, .int .i64 y5, .int .i64 y6, .bool y7, .slice A8 y8.length cap8, .string y9] 24)).alloc (.cells #[.int .i64 z0, .int .i64 z1, .int .i64 z2, .int .i64 z3, .int .i64 z4, .int .i64 z5, .int .i64 z6, .bool z7, .slice Az8 z8.length capz8, .string z9] 24)).heap.size = w.heap.size + 2 := by simp
  have hbw := below_step hb0 hb1
  have hC1 := (hC.below hb0).below hb1
  have hD1 := (hD.below hb0).below hb1
  have HC := Lib.hid hC1
  have HD := Lib.hid hD1
  have HOX := Lib.hid hokX
  have HOY := Lib.hid hokY
  have HLX := Lib.hid hlenX
  have HLY := Lib.hid hlenY
  have HS := Lib.hid hS
  have HR := Lib.hid hR
  have HSS := Lib.hid hss
  have HSD := Lib.hid hsd
  have HE := Lib.hid e2
  have HE1 := Lib.hid e1
  have HB := Lib.hid hbw
  have HN := Lib.hid hN2
  have HM := Lib.hid hmore
  clear hC hD hC1 hD1 hokX hokY hlenX hlenY hS hR hss hsd e0 e1 e2 hb0 hb1 hbw hN hN2
  show Calls Try.prog 4 #[.agg #[.int .i64 y0, .int .i64 y1, .int .i64 y2, .int .i64 y3, .int .i64 y4, .int .i64 y5, .int .i64 y6, .bool y7, .slice A8 y8.length cap8, .string y9], .agg #[.int .i64 z0, .int .i64 z1, .int .i64 z2, .int .i64 z3, .int .i64 z4, .int .i64 z5, .int .i64 z6, .bool z7, .slice Az8 z8.length capz8, .string z9], .int .i64 cut, .string more] w _
  go_enter Try.func4, Try.ntmps4
  go_wp2_with fail
  refine (awake_calls _).mono ?_
  rintro e w1 ⟨rfl, hb1⟩
  have hk1 := (hb1.block w.heap.size (by rw [HN.out]; omega)).trans HE.out
  have hk2 := (hb1.block (w.heap.size + 1) (by rw [HN.out]; omega)).trans HE1.out
  have qy8 : w1.cell? ⟨w.heap.size, 8, none⟩ = some (.slice A8 y8.length cap8) := (blk_cell hk1 8).trans rfl
  have qy9 : w1.cell? ⟨w.heap.size, 9, none⟩ = some (.string y9) := (blk_cell hk1 9).trans rfl
  have qz8 : w1.cell? ⟨w.heap.size + 1, 8, none⟩ = some (.slice Az8 z8.length capz8) := (blk_cell hk2 8).trans rfl
  have qz9 : w1.cell? ⟨w.heap.size + 1, 9, none⟩ = some (.string z9) := (blk_cell hk2 9).trans rfl
  have HK1 := Lib.hid hk1
  have HK2 := Lib.hid hk2
  have HB1 := Lib.hid (below_step HB.out hb1)
  have HC1 := Lib.hid (HC.out.below hb1)
  have HD1 := Lib.hid (HD.out.below hb1)
  have hlt1 : w.heap.size + 1 < w1.heap.size := blk_lt hk2
  clear hk1 hk2 hb1
  by_cases hc0 : (300 : Int) < (y8.length : Int)
  · have dc0 : decide ((300 : Int) < (y8.length : Int)) = true := decide_eq_true hc0
    clear hc0
    go_wp2_with fail
    refine (awake_calls _).mono ?_
    rintro e w2 ⟨rfl, hb2⟩
    have HB2 := Lib.hid hb2
    clear hb2
    go_wp2_with fail
    go_ret
    exact ⟨rfl, below_step HB1.out HB2.out⟩
  have dc0 : decide ((300 : Int) < (y8.length : Int)) = false := decide_eq_false hc0
  clear hc0
  by_cases hc1 : (4096 : Int) < (y9.size : Int)
  · have dc1 : decide ((4096 : Int) < (y9.size : Int)) = true := decide_eq_true hc1
    clear hc1
    go_wp2_with fail
    refine (awake_calls _).mono ?_
    rintro e w2 ⟨rfl, hb2⟩
    have HB2 := Lib.hid hb2
    clear hb2
    go_wp2_with fail
    go_ret
    exact ⟨rfl, below_step HB1.out HB2.out⟩
  have dc1 : decide ((4096 : Int) < (y9.size : Int)) = false := decide_eq_false hc1
  clear hc1
  by_cases hc2 : (300 : Int) < (z8.length : Int)
  · have dc2 : decide ((300 : Int) < (z8.length : Int)) = true := decide_eq_true hc2
    clear hc2
    go_wp2_with fail
    refine (awake_calls _).mono ?_
    rintro e w2 ⟨rfl, hb2⟩
    have HB2 := Lib.hid hb2
    clear hb2
    go_wp2_with fail
    go_ret
    exact ⟨rfl, below_step HB1.out HB2.out⟩
  have dc2 : decide ((300 : Int) < (z8.length : Int)) = false := decide_eq_false hc2
  clear hc2
  by_cases hc3 : (4096 : Int) < (z9.size : Int)
  · have dc3 : decide ((4096 : Int) < (z9.size : Int)) = true := decide_eq_true hc3
    clear hc3
    go_wp2_with fail
    refine (awake_calls _).mono ?_
    rintro e w2 ⟨rfl, hb2⟩
    have HB2 := Lib.hid hb2
    clear hb2
    go_wp2_with fail
    go_ret
    exact ⟨rfl, below_step HB1.out HB2.out⟩
  have dc3 : decide ((4096 : Int) < (z9.size : Int)) = false := decide_eq_false hc3
  clear hc3
  by_cases hc4 : (4096 : Int) < (more.size : Int)
  · have dc4 : decide ((4096 : Int) < (more.size : Int)) = true := decide_eq_true hc4
    clear hc4
    go_wp2_with fail
    refine (awake_calls _).mono ?_
    rintro e w2 ⟨rfl, hb2⟩
    have HB2 := Lib.hid hb2
    clear hb2
    go_wp2_with fail
    go_ret
    exact ⟨rfl, below_step HB1.out HB2.out⟩
  have dc4 : decide ((4096 : Int) < (more.size : Int)) = false := decide_eq_false hc4
  clear hc4
  go_wp2_with ((with_reducible refine gate_load (t := 24) (p := .tmp 4) rfl ?_); refine wpList_load_whole (t := 24) rfl (.tmp 4) rfl (by rfl) Try.underlying24 (by kernel_rfl) HK1.out ?_)
  refine (Put_msg X [.int .i64 y0, .int .i64 y1, .int .i64 y2, .int .i64 y3, .int .i64 y4, .int .i64 y5, .int .i64 y6, .bool y7, .slice A8 y8.length cap8, .string y9] _ _ HC1.out HOX.out (Nat.le_trans HLX.out (by decide))).mono ?_
  rintro e w2 ⟨rfl, hb2⟩
  rw [HS.out]
  have HK3 := Lib.hid ((hb2.block w.heap.size (by omega)).trans HK1.out)
  have HK4 := Lib.hid ((hb2.block (w.heap.size + 1) (by omega)).trans HK2.out)
  have HB2 := Lib.hid (below_step HB1.out hb2)
  have HC2 := Lib.hid (HC1.out.below hb2)
  have HD2 := Lib.hid (HD1.out.below hb2)
  have hlt2 : w.heap.size + 1 < w2.heap.size := Nat.lt_of_lt_of_le hlt1 hb2.size
  clear hb2 qy8 qy9 qz8 qz9 dc0 dc1 dc2 dc3 dc4 hlt1
  have hss := HSS.out
  have hmm : more.size ≤ 34359738368 := HM.out
  have hcat : ¬ 9223372036854775807 < S.size + more.size := by omega
  by_cases hcut : 0 ≤ cut ∧ cut < (S.size : Int)
  · obtain ⟨c0, c1⟩ := hcut
    have dc0 : decide ((0 : Int) ≤ cut) = true := decide_eq_true c0
    have dc1 : decide (cut < (S.size : Int)) = true := decide_eq_true c1
    go_wp2_with fail
    refine (Get_msg (S.extract 0 cut.toNat) _ (by rw [ByteArray.size_extract]; omega)).mono ?_
    rintro e w3 ⟨hb3, hr⟩
    rcases hr with ⟨x', cs', hx, rfl, hH⟩ | ⟨hx, rfl⟩
    · have h9 : S.data.toList.length = S.size := by simp
      exact absurd hx (cuts_cut HOX.out HSD.out (by omega) (by omega))
    · have hz : tMsg.zcells.toArray = #[.int .i64 0, .int .i64 0, .int .i64 0, .int .i64 0, .int .i64 0, .int .i64 0, .int .i64 0, .bool false, .slice none 0 0, .string ⟨#[]⟩] := rfl
      rw [hz]
      have hb4 : Below w3.heap.size w3 (w3.alloc (.cells #[.int .i64 0, .int .i64 0, .int .i64 0, .int .i64 0, .int .i64 0, .int .i64 0, .int .i64 0, .bool false, .slice none 0 0, .string ⟨#[]⟩] 24)) := (Below.refl _ _).alloc (Nat.le_refl _) _
      have HK7 := Lib.hid ((hb4.block w.heap.size (by have := hb3.size; omega)).trans ((hb3.block w.heap.size (by omega)).trans HK3.out))
      have HK8 := Lib.hid ((hb4.block (w.heap.size + 1) (by have := hb3.size; omega)).trans ((hb3.block (w.heap.size + 1) (by omega)).trans HK4.out))
      have HB4 := Lib.hid (below_step (below_step HB2.out hb3) hb4)
      have HC4 := Lib.hid ((HC2.out.below hb3).below hb4)
      have HD4 := Lib.hid ((HD2.out.below hb3).below hb4)
      have hlt4 : w.heap.size + 1 < w3.heap.size := Nat.lt_of_lt_of_le hlt2 hb3.size
      clear hb3 hb4 hz hx dc0 dc1
      go_wp2_with fail
      refine (Get_msg (S ++ more) _ (by rw [ByteArray.size_append]; omega)).mono ?_
      rintro e w5 ⟨hb5, hr⟩
      have HK5 := Lib.hid ((hb5.block w.heap.size (by have := hlt4; simp; omega)).trans HK7.out)
      have HK6 := Lib.hid ((hb5.block (w.heap.size + 1) (by have := hlt4; simp; omega)).trans HK8.out)
      have HB5 := Lib.hid (below_step HB4.out hb5)
      have HC5 := Lib.hid (HC4.out.below hb5)
      have HD5 := Lib.hid (HD4.out.below hb5)
      have hlt5 : w.heap.size + 1 < w5.heap.size := Nat.lt_of_lt_of_le hlt4 (Nat.le_trans (by simp) hb5.size)
      clear hb5
      by_cases hm0 : more.data.toList = []
      · obtain rfl : more = (⟨#[]⟩ : ByteArray) := by cases more; simpa using hm0
        rcases hr with ⟨x', cs', hx, rfl, hH⟩ | ⟨hx, rfl⟩
        · have hl := hH.len
          have h1 := all_one hH.one
          obtain ⟨u0, u1, u2, u3, u4, u5, u6, u7, u8, u9, rfl⟩ : ∃ u0 u1 u2 u3 u4 u5 u6 u7 u8 u9, cs' = [u0, u1, u2, u3, u4, u5, u6, u7, u8, u9] := by
            match cs', hl with
            | [u0, u1, u2, u3, u4, u5, u6, u7, u8, u9], _ => exact ⟨u0, u1, u2, u3, u4, u5, u6, u7, u8, u9, rfl⟩
          have H1 := Lib.hid h1
          have hb6 : Below w5.heap.size w5 (w5.alloc (.cells #[u0, u1, u2, u3, u4, u5, u6, u7, u8, u9] 24)) := (Below.refl _ _).alloc (Nat.le_refl _) _
          obtain ⟨wb, hwb⟩ : ∃ wb, w5.alloc (.cells #[u0, u1, u2, u3, u4, u5, u6, u7, u8, u9] 24) = wb := ⟨_, rfl⟩
          rw [hwb] at hb6
          have HKb := Lib.hid ((hb6.block w.heap.size (by omega)).trans HK5.out)
          have HKc := Lib.hid ((hb6.block (w.heap.size + 1) (by omega)).trans HK6.out)
          have HBb := Lib.hid (below_step HB5.out hb6)
          have HCb := Lib.hid (HC5.out.below hb6)
          have HDb := Lib.hid (HD5.out.below hb6)
          clear hb6
          clear hl h1 hH hx hm0
          go_wp2_with (first | ((with_reducible refine gate_store (t := 24) (p := .tmp 12) (x := .tmp 70) rfl ?_); refine wpList_store_new (t := 24) rfl (.tmp 12) (.tmp 70) rfl #[u0, u1, u2, u3, u4, u5, u6, u7, u8, u9] (by rfl) (by rfl) (by kernel_rfl) rfl H1.out ?_; rw [hwb]))
          clear hwb
          have hB0 : Below wb.heap.size wb wb := Below.refl _ _
          have qy0 : wb.cell? ⟨w.heap.size, 0, none⟩ = some (.int .i64 y0) := (blk_cell HKb.out 0).trans rfl
          have qy1 : wb.cell? ⟨w.heap.size, 1, none⟩ = some (.int .i64 y1) := (blk_cell HKb.out 1).trans rfl
          have qy2 : wb.cell? ⟨w.heap.size, 2, none⟩ = some (.int .i64 y2) := (blk_cell HKb.out 2).trans rfl
          have qy3 : wb.cell? ⟨w.heap.size, 3, none⟩ = some (.int .i64 y3) := (blk_cell HKb.out 3).trans rfl
          have qy4 : wb.cell? ⟨w.heap.size, 4, none⟩ = some (.int .i64 y4) := (blk_cell HKb.out 4).trans rfl
          have qy5 : wb.cell? ⟨w.heap.size, 5, none⟩ = some (.int .i64 y5) := (blk_cell HKb.out 5).trans rfl
          have qy6 : wb.cell? ⟨w.heap.size, 6, none⟩ = some (.int .i64 y6) := (blk_cell HKb.out 6).trans rfl
          have qy7 : wb.cell? ⟨w.heap.size, 7, none⟩ = some (.bool y7) := (blk_cell HKb.out 7).trans rfl
          have qy8 : wb.cell? ⟨w.heap.size, 8, none⟩ = some (.slice A8 y8.length cap8) := (blk_cell HKb.out 8).trans rfl
          have qy9 : wb.cell? ⟨w.heap.size, 9, none⟩ = some (.string y9) := (blk_cell HKb.out 9).trans rfl
          have qz0 : wb.cell? ⟨w.heap.size + 1, 0, none⟩ = some (.int .i64 z0) := (blk_cell HKc.out 0).trans rfl
          have qz1 : wb.cell? ⟨w.heap.size + 1, 1, none⟩ = some (.int .i64 z1) := (blk_cell HKc.out 1).trans rfl
          have qz2 : wb.cell? ⟨w.heap.size + 1, 2, none⟩ = some (.int .i64 z2) := (blk_cell HKc.out 2).trans rfl
          have qz3 : wb.cell? ⟨w.heap.size + 1, 3, none⟩ = some (.int .i64 z3) := (blk_cell HKc.out 3).trans rfl
          have qz4 : wb.cell? ⟨w.heap.size + 1, 4, none⟩ = some (.int .i64 z4) := (blk_cell HKc.out 4).trans rfl
          have qz5 : wb.cell? ⟨w.heap.size + 1, 5, none⟩ = some (.int .i64 z5) := (blk_cell HKc.out 5).trans rfl
          have qz6 : wb.cell? ⟨w.heap.size + 1, 6, none⟩ = some (.int .i64 z6) := (blk_cell HKc.out 6).trans rfl
          have qz7 : wb.cell? ⟨w.heap.size + 1, 7, none⟩ = some (.bool z7) := (blk_cell HKc.out 7).trans rfl
          have qz8 : wb.cell? ⟨w.heap.size + 1, 8, none⟩ = some (.slice Az8 z8.length capz8) := (blk_cell HKc.out 8).trans rfl
          have qz9 : wb.cell? ⟨w.heap.size + 1, 9, none⟩ = some (.string z9) := (blk_cell HKc.out 9).trans rfl
          have KK : Hid (∀ w', Below wb.heap.size wb w' → (Below wb.heap.size wb w' ∧ w'.cell? ⟨w.heap.size, 0, none⟩ = some (.int .i64 y0) ∧ w'.cell? ⟨w.heap.size, 1, none⟩ = some (.int .i64 y1) ∧ w'.cell? ⟨w.heap.size, 2, none⟩ = some (.int .i64 y2) ∧ w'.cell? ⟨w.heap.size, 3, none⟩ = some (.int .i64 y3) ∧ w'.cell? ⟨w.heap.size, 4, none⟩ = some (.int .i64 y4) ∧ w'.cell? ⟨w.heap.size, 5, none⟩ = some (.int .i64 y5) ∧ w'.cell? ⟨w.heap.size, 6, none⟩ = some (.int .i64 y6) ∧ w'.cell? ⟨w.heap.size, 7, none⟩ = some (.bool y7) ∧ w'.cell? ⟨w.heap.size, 8, none⟩ = some (.slice A8 y8.length cap8) ∧ w'.cell? ⟨w.heap.size, 9, none⟩ = some (.string y9) ∧ w'.cell? ⟨w.heap.size + 1, 0, none⟩ = some (.int .i64 z0) ∧ w'.cell? ⟨w.heap.size + 1, 1, none⟩ = some (.int .i64 z1) ∧ w'.cell? ⟨w.heap.size + 1, 2, none⟩ = some (.int .i64 z2) ∧ w'.cell? ⟨w.heap.size + 1, 3, none⟩ = some (.int .i64 z3) ∧ w'.cell? ⟨w.heap.size + 1, 4, none⟩ = some (.int .i64 z4) ∧ w'.cell? ⟨w.heap.size + 1, 5, none⟩ = some (.int .i64 z5) ∧ w'.cell? ⟨w.heap.size + 1, 6, none⟩ = some (.int .i64 z6) ∧ w'.cell? ⟨w.heap.size + 1, 7, none⟩ = some (.bool z7) ∧ w'.cell? ⟨w.heap.size + 1, 8, none⟩ = some (.slice Az8 z8.length capz8) ∧ w'.cell? ⟨w.heap.size + 1, 9, none⟩ = some (.string z9))) := Lib.hid (fun w' hX => ⟨hX, keepP qy0 hX, keepP qy1 hX, keepP qy2 hX, keepP qy3 hX, keepP qy4 hX, keepP qy5 hX, keepP qy6 hX, keepP qy7 hX, keepP qy8 hX, keepP qy9 hX, keepP qz0 hX, keepP qz1 hX, keepP qz2 hX, keepP qz3 hX, keepP qz4 hX, keepP qz5 hX, keepP qz6 hX, keepP qz7 hX, keepP qz8 hX, keepP qz9 hX⟩)
          go_region_held3 (fun w' => Below wb.heap.size wb w' ∧ w'.cell? ⟨w.heap.size, 0, none⟩ = some (.int .i64 y0) ∧ w'.cell? ⟨w.heap.size, 1, none⟩ = some (.int .i64 y1) ∧ w'.cell? ⟨w.heap.size, 2, none⟩ = some (.int .i64 y2) ∧ w'.cell? ⟨w.heap.size, 3, none⟩ = some (.int .i64 y3) ∧ w'.cell? ⟨w.heap.size, 4, none⟩ = some (.int .i64 y4) ∧ w'.cell? ⟨w.heap.size, 5, none⟩ = some (.int .i64 y5) ∧ w'.cell? ⟨w.heap.size, 6, none⟩ = some (.int .i64 y6) ∧ w'.cell? ⟨w.heap.size, 7, none⟩ = some (.bool y7) ∧ w'.cell? ⟨w.heap.size, 8, none⟩ = some (.slice A8 y8.length cap8) ∧ w'.cell? ⟨w.heap.size, 9, none⟩ = some (.string y9) ∧ w'.cell? ⟨w.heap.size + 1, 0, none⟩ = some (.int .i64 z0) ∧ w'.cell? ⟨w.heap.size + 1, 1, none⟩ = some (.int .i64 z1) ∧ w'.cell? ⟨w.heap.size + 1, 2, none⟩ = some (.int .i64 z2) ∧ w'.cell? ⟨w.heap.size + 1, 3, none⟩ = some (.int .i64 z3) ∧ w'.cell? ⟨w.heap.size + 1, 4, none⟩ = some (.int .i64 z4) ∧ w'.cell? ⟨w.heap.size + 1, 5, none⟩ = some (.int .i64 z5) ∧ w'.cell? ⟨w.heap.size + 1, 6, none⟩ = some (.int .i64 z6) ∧ w'.cell? ⟨w.heap.size + 1, 7, none⟩ = some (.bool z7) ∧ w'.cell? ⟨w.heap.size + 1, 8, none⟩ = some (.slice Az8 z8.length capz8) ∧ w'.cell? ⟨w.heap.size + 1, 9, none⟩ = some (.string z9))
            (first | ((with_reducible refine KK.out _ ?_); (repeat (first | with_reducible refine bel_drew ?_ | with_reducible refine bel_alloc ?_)); first | with_reducible exact hB3 | with_reducible exact hB2 | with_reducible exact hB1 | with_reducible exact hB0))
            (first | (go_at_call 13; have hp := hB2; refine (ref_of msg_ref X [.int .i64 y0, .int .i64 y1, .int .i64 y2, .int .i64 y3, .int .i64 y4, .int .i64 y5, .int .i64 y6, .bool y7, .slice A8 y8.length cap8, .string y9] S HS.out _ _ (HCb.out.below (by (repeat (first | with_reducible refine bel_drew ?_ | with_reducible refine bel_alloc ?_)); with_reducible exact hp)) HOX.out (Nat.le_trans HLX.out (by decide))).mono ?_; rintro e v3 ⟨rfl, hr3⟩; have hB3 : Below wb.heap.size wb v3 := below_step (by (repeat (first | with_reducible refine bel_drew ?_ | with_reducible refine bel_alloc ?_)); with_reducible exact hp) hr3) | (go_at_call 13; have hp := hB1; refine (ref_of msg_ref Y [.int .i64 z0, .int .i64 z1, .int .i64 z2, .int .i64 z3, .int .i64 z4, .int .i64 z5, .int .i64 z6, .bool z7, .slice Az8 z8.length capz8, .string z9] R HR.out _ _ (HDb.out.below (by (repeat (first | with_reducible refine bel_drew ?_ | with_reducible refine bel_alloc ?_)); with_reducible exact hp)) HOY.out (Nat.le_trans HLY.out (by decide))).mono ?_; rintro e v2 ⟨rfl, hr2⟩; have hB2 : Below wb.heap.size wb v2 := below_step (by (repeat (first | with_reducible refine bel_drew ?_ | with_reducible refine bel_alloc ?_)); with_reducible exact hp) hr2) | (go_at_call 11; have hp := hB0; refine (ref_of Put_msg Y [.int .i64 z0, .int .i64 z1, .int .i64 z2, .int .i64 z3, .int .i64 z4, .int .i64 z5, .int .i64 z6, .bool z7, .slice Az8 z8.length capz8, .string z9] R HR.out _ _ (HDb.out.below (by (repeat (first | with_reducible refine bel_drew ?_ | with_reducible refine bel_alloc ?_)); with_reducible exact hp)) HOY.out (Nat.le_trans HLY.out (by decide))).mono ?_; rintro e v1 ⟨rfl, hr1⟩; have hB1 : Below wb.heap.size wb v1 := below_step (by (repeat (first | with_reducible refine bel_drew ?_ | with_reducible refine bel_alloc ?_)); with_reducible exact hp) hr1))
          all_goals
            go_wp2_with fail
            go_ret
            exact ⟨rfl, below_step HBb.out hB3⟩
        · exact absurd hx (cuts_some HOX.out HSD.out)
      · rcases hr with ⟨x', cs', hx, rfl, hH⟩ | ⟨hx, rfl⟩
        · exact absurd hx (cuts_none HOX.out HSD.out hm0)
        · have hz : tMsg.zcells.toArray = #[.int .i64 0, .int .i64 0, .int .i64 0, .int .i64 0, .int .i64 0, .int .i64 0, .int .i64 0, .bool false, .slice none 0 0, .string ⟨#[]⟩] := rfl
          rw [hz]
          have hb6 : Below w5.heap.size w5 (w5.alloc (.cells #[.int .i64 0, .int .i64 0, .int .i64 0, .int .i64 0, .int .i64 0, .int .i64 0, .int .i64 0, .bool false, .slice none 0 0, .string ⟨#[]⟩] 24)) := (Below.refl _ _).alloc (Nat.le_refl _) _
          obtain ⟨wb, hwb⟩ : ∃ wb, w5.alloc (.cells #[.int .i64 0, .int .i64 0, .int .i64 0, .int .i64 0, .int .i64 0, .int .i64 0, .int .i64 0, .bool false, .slice none 0 0, .string ⟨#[]⟩] 24) = wb := ⟨_, rfl⟩
          rw [hwb] at hb6
          have HKb := Lib.hid ((hb6.block w.heap.size (by omega)).trans HK5.out)
          have HKc := Lib.hid ((hb6.block (w.heap.size + 1) (by omega)).trans HK6.out)
          have HBb := Lib.hid (below_step HB5.out hb6)
          have HCb := Lib.hid (HC5.out.below hb6)
          have HDb := Lib.hid (HD5.out.below hb6)
          clear hb6
          have hq1 := str_ne (a := more) (b := (⟨#[]⟩ : ByteArray)) (fun he => hm0 (by rw [he]))
          have hq2 : more.toList = [] ↔ False := by rw [ByteArray.toList_eq]; exact ⟨hm0, fun h => h.elim⟩
          have hq3 : more.toList.isEmpty = false := by rw [ByteArray.toList_eq]; simpa using hm0
          have HWB := Lib.hid hwb
          clear hz hx hm0 hwb
          go_wp2_with fail
          rw [HWB.out]
          have hB0 : Below wb.heap.size wb wb := Below.refl _ _
          have qy0 : wb.cell? ⟨w.heap.size, 0, none⟩ = some (.int .i64 y0) := (blk_cell HKb.out 0).trans rfl
          have qy1 : wb.cell? ⟨w.heap.size, 1, none⟩ = some (.int .i64 y1) := (blk_cell HKb.out 1).trans rfl
          have qy2 : wb.cell? ⟨w.heap.size, 2, none⟩ = some (.int .i64 y2) := (blk_cell HKb.out 2).trans rfl
          have qy3 : wb.cell? ⟨w.heap.size, 3, none⟩ = some (.int .i64 y3) := (blk_cell HKb.out 3).trans rfl
          have qy4 : wb.cell? ⟨w.heap.size, 4, none⟩ = some (.int .i64 y4) := (blk_cell HKb.out 4).trans rfl
          have qy5 : wb.cell? ⟨w.heap.size, 5, none⟩ = some (.int .i64 y5) := (blk_cell HKb.out 5).trans rfl
          have qy6 : wb.cell? ⟨w.heap.size, 6, none⟩ = some (.int .i64 y6) := (blk_cell HKb.out 6).trans rfl
          have qy7 : wb.cell? ⟨w.heap.size, 7, none⟩ = some (.bool y7) := (blk_cell HKb.out 7).trans rfl
          have qy8 : wb.cell? ⟨w.heap.size, 8, none⟩ = some (.slice A8 y8.length cap8) := (blk_cell HKb.out 8).trans rfl
          have qy9 : wb.cell? ⟨w.heap.size, 9, none⟩ = some (.string y9) := (blk_cell HKb.out 9).trans rfl
          have qz0 : wb.cell? ⟨w.heap.size + 1, 0, none⟩ = some (.int .i64 z0) := (blk_cell HKc.out 0).trans rfl
          have qz1 : wb.cell? ⟨w.heap.size + 1, 1, none⟩ = some (.int .i64 z1) := (blk_cell HKc.out 1).trans rfl
          have qz2 : wb.cell? ⟨w.heap.size + 1, 2, none⟩ = some (.int .i64 z2) := (blk_cell HKc.out 2).trans rfl
          have qz3 : wb.cell? ⟨w.heap.size + 1, 3, none⟩ = some (.int .i64 z3) := (blk_cell HKc.out 3).trans rfl
          have qz4 : wb.cell? ⟨w.heap.size + 1, 4, none⟩ = some (.int .i64 z4) := (blk_cell HKc.out 4).trans rfl
          have qz5 : wb.cell? ⟨w.heap.size + 1, 5, none⟩ = some (.int .i64 z5) := (blk_cell HKc.out 5).trans rfl
          have qz6 : wb.cell? ⟨w.heap.size + 1, 6, none⟩ = some (.int .i64 z6) := (blk_cell HKc.out 6).trans rfl
          have qz7 : wb.cell? ⟨w.heap.size + 1, 7, none⟩ = some (.bool z7) := (blk_cell HKc.out 7).trans rfl
          have qz8 : wb.cell? ⟨w.heap.size + 1, 8, none⟩ = some (.slice Az8 z8.length capz8) := (blk_cell HKc.out 8).trans rfl
          have qz9 : wb.cell? ⟨w.heap.size + 1, 9, none⟩ = some (.string z9) := (blk_cell HKc.out 9).trans rfl
          have KK : Hid (∀ w', Below wb.heap.size wb w' → (Below wb.heap.size wb w' ∧ w'.cell? ⟨w.heap.size, 0, none⟩ = some (.int .i64 y0) ∧ w'.cell? ⟨w.heap.size, 1, none⟩ = some (.int .i64 y1) ∧ w'.cell? ⟨w.heap.size, 2, none⟩ = some (.int .i64 y2) ∧ w'.cell? ⟨w.heap.size, 3, none⟩ = some (.int .i64 y3) ∧ w'.cell? ⟨w.heap.size, 4, none⟩ = some (.int .i64 y4) ∧ w'.cell? ⟨w.heap.size, 5, none⟩ = some (.int .i64 y5) ∧ w'.cell? ⟨w.heap.size, 6, none⟩ = some (.int .i64 y6) ∧ w'.cell? ⟨w.heap.size, 7, none⟩ = some (.bool y7) ∧ w'.cell? ⟨w.heap.size, 8, none⟩ = some (.slice A8 y8.length cap8) ∧ w'.cell? ⟨w.heap.size, 9, none⟩ = some (.string y9) ∧ w'.cell? ⟨w.heap.size + 1, 0, none⟩ = some (.int .i64 z0) ∧ w'.cell? ⟨w.heap.size + 1, 1, none⟩ = some (.int .i64 z1) ∧ w'.cell? ⟨w.heap.size + 1, 2, none⟩ = some (.int .i64 z2) ∧ w'.cell? ⟨w.heap.size + 1, 3, none⟩ = some (.int .i64 z3) ∧ w'.cell? ⟨w.heap.size + 1, 4, none⟩ = some (.int .i64 z4) ∧ w'.cell? ⟨w.heap.size + 1, 5, none⟩ = some (.int .i64 z5) ∧ w'.cell? ⟨w.heap.size + 1, 6, none⟩ = some (.int .i64 z6) ∧ w'.cell? ⟨w.heap.size + 1, 7, none⟩ = some (.bool z7) ∧ w'.cell? ⟨w.heap.size + 1, 8, none⟩ = some (.slice Az8 z8.length capz8) ∧ w'.cell? ⟨w.heap.size + 1, 9, none⟩ = some (.string z9))) := Lib.hid (fun w' hX => ⟨hX, keepP qy0 hX, keepP qy1 hX, keepP qy2 hX, keepP qy3 hX, keepP qy4 hX, keepP qy5 hX, keepP qy6 hX, keepP qy7 hX, keepP qy8 hX, keepP qy9 hX, keepP qz0 hX, keepP qz1 hX, keepP qz2 hX, keepP qz3 hX, keepP qz4 hX, keepP qz5 hX, keepP qz6 hX, keepP qz7 hX, keepP qz8 hX, keepP qz9 hX⟩)
          go_region_held3 (fun w' => Below wb.heap.size wb w' ∧ w'.cell? ⟨w.heap.size, 0, none⟩ = some (.int .i64 y0) ∧ w'.cell? ⟨w.heap.size, 1, none⟩ = some (.int .i64 y1) ∧ w'.cell? ⟨w.heap.size, 2, none⟩ = some (.int .i64 y2) ∧ w'.cell? ⟨w.heap.size, 3, none⟩ = some (.int .i64 y3) ∧ w'.cell? ⟨w.heap.size, 4, none⟩ = some (.int .i64 y4) ∧ w'.cell? ⟨w.heap.size, 5, none⟩ = some (.int .i64 y5) ∧ w'.cell? ⟨w.heap.size, 6, none⟩ = some (.int .i64 y6) ∧ w'.cell? ⟨w.heap.size, 7, none⟩ = some (.bool y7) ∧ w'.cell? ⟨w.heap.size, 8, none⟩ = some (.slice A8 y8.length cap8) ∧ w'.cell? ⟨w.heap.size, 9, none⟩ = some (.string y9) ∧ w'.cell? ⟨w.heap.size + 1, 0, none⟩ = some (.int .i64 z0) ∧ w'.cell? ⟨w.heap.size + 1, 1, none⟩ = some (.int .i64 z1) ∧ w'.cell? ⟨w.heap.size + 1, 2, none⟩ = some (.int .i64 z2) ∧ w'.cell? ⟨w.heap.size + 1, 3, none⟩ = some (.int .i64 z3) ∧ w'.cell? ⟨w.heap.size + 1, 4, none⟩ = some (.int .i64 z4) ∧ w'.cell? ⟨w.heap.size + 1, 5, none⟩ = some (.int .i64 z5) ∧ w'.cell? ⟨w.heap.size + 1, 6, none⟩ = some (.int .i64 z6) ∧ w'.cell? ⟨w.heap.size + 1, 7, none⟩ = some (.bool z7) ∧ w'.cell? ⟨w.heap.size + 1, 8, none⟩ = some (.slice Az8 z8.length capz8) ∧ w'.cell? ⟨w.heap.size + 1, 9, none⟩ = some (.string z9))
            (first | ((with_reducible refine KK.out _ ?_); (repeat (first | with_reducible refine bel_drew ?_ | with_reducible refine bel_alloc ?_)); first | with_reducible exact hB3 | with_reducible exact hB2 | with_reducible exact hB1 | with_reducible exact hB0))
            (first | (go_at_call 13; have hp := hB2; refine (ref_of msg_ref X [.int .i64 y0, .int .i64 y1, .int .i64 y2, .int .i64 y3, .int .i64 y4, .int .i64 y5, .int .i64 y6, .bool y7, .slice A8 y8.length cap8, .string y9] S HS.out _ _ (HCb.out.below (by (repeat (first | with_reducible refine bel_drew ?_ | with_reducible refine bel_alloc ?_)); with_reducible exact hp)) HOX.out (Nat.le_trans HLX.out (by decide))).mono ?_; rintro e v3 ⟨rfl, hr3⟩; have hB3 : Below wb.heap.size wb v3 := below_step (by (repeat (first | with_reducible refine bel_drew ?_ | with_reducible refine bel_alloc ?_)); with_reducible exact hp) hr3) | (go_at_call 13; have hp := hB1; refine (ref_of msg_ref Y [.int .i64 z0, .int .i64 z1, .int .i64 z2, .int .i64 z3, .int .i64 z4, .int .i64 z5, .int .i64 z6, .bool z7, .slice Az8 z8.length capz8, .string z9] R HR.out _ _ (HDb.out.below (by (repeat (first | with_reducible refine bel_drew ?_ | with_reducible refine bel_alloc ?_)); with_reducible exact hp)) HOY.out (Nat.le_trans HLY.out (by decide))).mono ?_; rintro e v2 ⟨rfl, hr2⟩; have hB2 : Below wb.heap.size wb v2 := below_step (by (repeat (first | with_reducible refine bel_drew ?_ | with_reducible refine bel_alloc ?_)); with_reducible exact hp) hr2) | (go_at_call 11; have hp := hB0; refine (ref_of Put_msg Y [.int .i64 z0, .int .i64 z1, .int .i64 z2, .int .i64 z3, .int .i64 z4, .int .i64 z5, .int .i64 z6, .bool z7, .slice Az8 z8.length capz8, .string z9] R HR.out _ _ (HDb.out.below (by (repeat (first | with_reducible refine bel_drew ?_ | with_reducible refine bel_alloc ?_)); with_reducible exact hp)) HOY.out (Nat.le_trans HLY.out (by decide))).mono ?_; rintro e v1 ⟨rfl, hr1⟩; have hB1 : Below wb.heap.size wb v1 := below_step (by (repeat (first | with_reducible refine bel_drew ?_ | with_reducible refine bel_alloc ?_)); with_reducible exact hp) hr1))
          all_goals
            go_wp2_with fail
            go_ret
            exact ⟨rfl, below_step HBb.out hB3⟩
  · have key : decide ((0 : Int) ≤ cut) = false ∨ (decide ((0 : Int) ≤ cut) = true ∧ decide (cut < (S.size : Int)) = false) := by
      by_cases h1 : (0 : Int) ≤ cut
      · exact .inr ⟨decide_eq_true h1, decide_eq_false (fun h2 => hcut ⟨h1, h2⟩)⟩
      · exact .inl (decide_eq_false h1)
    clear hcut
    rcases key with dc0 | ⟨dc0, dc1⟩
    · go_wp2_with fail
      refine (Get_msg (S ++ more) _ (by rw [ByteArray.size_append]; omega)).mono ?_
      rintro e w5 ⟨hb5, hr⟩
      have HK5 := Lib.hid ((hb5.block w.heap.size (by have := hlt2; simp; omega)).trans HK3.out)
      have HK6 := Lib.hid ((hb5.block (w.heap.size + 1) (by have := hlt2; simp; omega)).trans HK4.out)
      have HB5 := Lib.hid (below_step HB2.out hb5)
      have HC5 := Lib.hid (HC2.out.below hb5)
      have HD5 := Lib.hid (HD2.out.below hb5)
      have hlt5 : w.heap.size + 1 < w5.heap.size := Nat.lt_of_lt_of_le hlt2 (Nat.le_trans (by simp) hb5.size)
      clear hb5
      by_cases hm0 : more.data.toList = []
      · obtain rfl : more = (⟨#[]⟩ : ByteArray) := by cases more; simpa using hm0
        rcases hr with ⟨x', cs', hx, rfl, hH⟩ | ⟨hx, rfl⟩
        · have hl := hH.len
          have h1 := all_one hH.one
          obtain ⟨u0, u1, u2, u3, u4, u5, u6, u7, u8, u9, rfl⟩ : ∃ u0 u1 u2 u3 u4 u5 u6 u7 u8 u9, cs' = [u0, u1, u2, u3, u4, u5, u6, u7, u8, u9] := by
            match cs', hl with
            | [u0, u1, u2, u3, u4, u5, u6, u7, u8, u9], _ => exact ⟨u0, u1, u2, u3, u4, u5, u6, u7, u8, u9, rfl⟩
          have H1 := Lib.hid h1
          have hb6 : Below w5.heap.size w5 (w5.alloc (.cells #[u0, u1, u2, u3, u4, u5, u6, u7, u8, u9] 24)) := (Below.refl _ _).alloc (Nat.le_refl _) _
          obtain ⟨wb, hwb⟩ : ∃ wb, w5.alloc (.cells #[u0, u1, u2, u3, u4, u5, u6, u7, u8, u9] 24) = wb := ⟨_, rfl⟩
          rw [hwb] at hb6
          have HKb := Lib.hid ((hb6.block w.heap.size (by omega)).trans HK5.out)
          have HKc := Lib.hid ((hb6.block (w.heap.size + 1) (by omega)).trans HK6.out)
          have HBb := Lib.hid (below_step HB5.out hb6)
          have HCb := Lib.hid (HC5.out.below hb6)
          have HDb := Lib.hid (HD5.out.below hb6)
          clear hb6
          clear hl h1 hH hx hm0
          go_wp2_with (first | ((with_reducible refine gate_store (t := 24) (p := .tmp 12) (x := .tmp 70) rfl ?_); refine wpList_store_new (t := 24) rfl (.tmp 12) (.tmp 70) rfl #[u0, u1, u2, u3, u4, u5, u6, u7, u8, u9] (by rfl) (by rfl) (by kernel_rfl) rfl H1.out ?_; rw [hwb]))
          clear hwb
          have hB0 : Below wb.heap.size wb wb := Below.refl _ _
          have qy0 : wb.cell? ⟨w.heap.size, 0, none⟩ = some (.int .i64 y0) := (blk_cell HKb.out 0).trans rfl
          have qy1 : wb.cell? ⟨w.heap.size, 1, none⟩ = some (.int .i64 y1) := (blk_cell HKb.out 1).trans rfl
          have qy2 : wb.cell? ⟨w.heap.size, 2, none⟩ = some (.int .i64 y2) := (blk_cell HKb.out 2).trans rfl
          have qy3 : wb.cell? ⟨w.heap.size, 3, none⟩ = some (.int .i64 y3) := (blk_cell HKb.out 3).trans rfl
          have qy4 : wb.cell? ⟨w.heap.size, 4, none⟩ = some (.int .i64 y4) := (blk_cell HKb.out 4).trans rfl
          have qy5 : wb.cell? ⟨w.heap.size, 5, none⟩ = some (.int .i64 y5) := (blk_cell HKb.out 5).trans rfl
          have qy6 : wb.cell? ⟨w.heap.size, 6, none⟩ = some (.int .i64 y6) := (blk_cell HKb.out 6).trans rfl
          have qy7 : wb.cell? ⟨w.heap.size, 7, none⟩ = some (.bool y7) := (blk_cell HKb.out 7).trans rfl
          have qy8 : wb.cell? ⟨w.heap.size, 8, none⟩ = some (.slice A8 y8.length cap8) := (blk_cell HKb.out 8).trans rfl
          have qy9 : wb.cell? ⟨w.heap.size, 9, none⟩ = some (.string y9) := (blk_cell HKb.out 9).trans rfl
          have qz0 : wb.cell? ⟨w.heap.size + 1, 0, none⟩ = some (.int .i64 z0) := (blk_cell HKc.out 0).trans rfl
          have qz1 : wb.cell? ⟨w.heap.size + 1, 1, none⟩ = some (.int .i64 z1) := (blk_cell HKc.out 1).trans rfl
          have qz2 : wb.cell? ⟨w.heap.size + 1, 2, none⟩ = some (.int .i64 z2) := (blk_cell HKc.out 2).trans rfl
          have qz3 : wb.cell? ⟨w.heap.size + 1, 3, none⟩ = some (.int .i64 z3) := (blk_cell HKc.out 3).trans rfl
          have qz4 : wb.cell? ⟨w.heap.size + 1, 4, none⟩ = some (.int .i64 z4) := (blk_cell HKc.out 4).trans rfl
          have qz5 : wb.cell? ⟨w.heap.size + 1, 5, none⟩ = some (.int .i64 z5) := (blk_cell HKc.out 5).trans rfl
          have qz6 : wb.cell? ⟨w.heap.size + 1, 6, none⟩ = some (.int .i64 z6) := (blk_cell HKc.out 6).trans rfl
          have qz7 : wb.cell? ⟨w.heap.size + 1, 7, none⟩ = some (.bool z7) := (blk_cell HKc.out 7).trans rfl
          have qz8 : wb.cell? ⟨w.heap.size + 1, 8, none⟩ = some (.slice Az8 z8.length capz8) := (blk_cell HKc.out 8).trans rfl
          have qz9 : wb.cell? ⟨w.heap.size + 1, 9, none⟩ = some (.string z9) := (blk_cell HKc.out 9).trans rfl
          have KK : Hid (∀ w', Below wb.heap.size wb w' → (Below wb.heap.size wb w' ∧ w'.cell? ⟨w.heap.size, 0, none⟩ = some (.int .i64 y0) ∧ w'.cell? ⟨w.heap.size, 1, none⟩ = some (.int .i64 y1) ∧ w'.cell? ⟨w.heap.size, 2, none⟩ = some (.int .i64 y2) ∧ w'.cell? ⟨w.heap.size, 3, none⟩ = some (.int .i64 y3) ∧ w'.cell? ⟨w.heap.size, 4, none⟩ = some (.int .i64 y4) ∧ w'.cell? ⟨w.heap.size, 5, none⟩ = some (.int .i64 y5) ∧ w'.cell? ⟨w.heap.size, 6, none⟩ = some (.int .i64 y6) ∧ w'.cell? ⟨w.heap.size, 7, none⟩ = some (.bool y7) ∧ w'.cell? ⟨w.heap.size, 8, none⟩ = some (.slice A8 y8.length cap8) ∧ w'.cell? ⟨w.heap.size, 9, none⟩ = some (.string y9) ∧ w'.cell? ⟨w.heap.size + 1, 0, none⟩ = some (.int .i64 z0) ∧ w'.cell? ⟨w.heap.size + 1, 1, none⟩ = some (.int .i64 z1) ∧ w'.cell? ⟨w.heap.size + 1, 2, none⟩ = some (.int .i64 z2) ∧ w'.cell? ⟨w.heap.size + 1, 3, none⟩ = some (.int .i64 z3) ∧ w'.cell? ⟨w.heap.size + 1, 4, none⟩ = some (.int .i64 z4) ∧ w'.cell? ⟨w.heap.size + 1, 5, none⟩ = some (.int .i64 z5) ∧ w'.cell? ⟨w.heap.size + 1, 6, none⟩ = some (.int .i64 z6) ∧ w'.cell? ⟨w.heap.size + 1, 7, none⟩ = some (.bool z7) ∧ w'.cell? ⟨w.heap.size + 1, 8, none⟩ = some (.slice Az8 z8.length capz8) ∧ w'.cell? ⟨w.heap.size + 1, 9, none⟩ = some (.string z9))) := Lib.hid (fun w' hX => ⟨hX, keepP qy0 hX, keepP qy1 hX, keepP qy2 hX, keepP qy3 hX, keepP qy4 hX, keepP qy5 hX, keepP qy6 hX, keepP qy7 hX, keepP qy8 hX, keepP qy9 hX, keepP qz0 hX, keepP qz1 hX, keepP qz2 hX, keepP qz3 hX, keepP qz4 hX, keepP qz5 hX, keepP qz6 hX, keepP qz7 hX, keepP qz8 hX, keepP qz9 hX⟩)
          go_region_held3 (fun w' => Below wb.heap.size wb w' ∧ w'.cell? ⟨w.heap.size, 0, none⟩ = some (.int .i64 y0) ∧ w'.cell? ⟨w.heap.size, 1, none⟩ = some (.int .i64 y1) ∧ w'.cell? ⟨w.heap.size, 2, none⟩ = some (.int .i64 y2) ∧ w'.cell? ⟨w.heap.size, 3, none⟩ = some (.int .i64 y3) ∧ w'.cell? ⟨w.heap.size, 4, none⟩ = some (.int .i64 y4) ∧ w'.cell? ⟨w.heap.size, 5, none⟩ = some (.int .i64 y5) ∧ w'.cell? ⟨w.heap.size, 6, none⟩ = some (.int .i64 y6) ∧ w'.cell? ⟨w.heap.size, 7, none⟩ = some (.bool y7) ∧ w'.cell? ⟨w.heap.size, 8, none⟩ = some (.slice A8 y8.length cap8) ∧ w'.cell? ⟨w.heap.size, 9, none⟩ = some (.string y9) ∧ w'.cell? ⟨w.heap.size + 1, 0, none⟩ = some (.int .i64 z0) ∧ w'.cell? ⟨w.heap.size + 1, 1, none⟩ = some (.int .i64 z1) ∧ w'.cell? ⟨w.heap.size + 1, 2, none⟩ = some (.int .i64 z2) ∧ w'.cell? ⟨w.heap.size + 1, 3, none⟩ = some (.int .i64 z3) ∧ w'.cell? ⟨w.heap.size + 1, 4, none⟩ = some (.int .i64 z4) ∧ w'.cell? ⟨w.heap.size + 1, 5, none⟩ = some (.int .i64 z5) ∧ w'.cell? ⟨w.heap.size + 1, 6, none⟩ = some (.int .i64 z6) ∧ w'.cell? ⟨w.heap.size + 1, 7, none⟩ = some (.bool z7) ∧ w'.cell? ⟨w.heap.size + 1, 8, none⟩ = some (.slice Az8 z8.length capz8) ∧ w'.cell? ⟨w.heap.size + 1, 9, none⟩ = some (.string z9))
            (first | ((with_reducible refine KK.out _ ?_); (repeat (first | with_reducible refine bel_drew ?_ | with_reducible refine bel_alloc ?_)); first | with_reducible exact hB3 | with_reducible exact hB2 | with_reducible exact hB1 | with_reducible exact hB0))
            (first | (go_at_call 13; have hp := hB2; refine (ref_of msg_ref X [.int .i64 y0, .int .i64 y1, .int .i64 y2, .int .i64 y3, .int .i64 y4, .int .i64 y5, .int .i64 y6, .bool y7, .slice A8 y8.length cap8, .string y9] S HS.out _ _ (HCb.out.below (by (repeat (first | with_reducible refine bel_drew ?_ | with_reducible refine bel_alloc ?_)); with_reducible exact hp)) HOX.out (Nat.le_trans HLX.out (by decide))).mono ?_; rintro e v3 ⟨rfl, hr3⟩; have hB3 : Below wb.heap.size wb v3 := below_step (by (repeat (first | with_reducible refine bel_drew ?_ | with_reducible refine bel_alloc ?_)); with_reducible exact hp) hr3) | (go_at_call 13; have hp := hB1; refine (ref_of msg_ref Y [.int .i64 z0, .int .i64 z1, .int .i64 z2, .int .i64 z3, .int .i64 z4, .int .i64 z5, .int .i64 z6, .bool z7, .slice Az8 z8.length capz8, .string z9] R HR.out _ _ (HDb.out.below (by (repeat (first | with_reducible refine bel_drew ?_ | with_reducible refine bel_alloc ?_)); with_reducible exact hp)) HOY.out (Nat.le_trans HLY.out (by decide))).mono ?_; rintro e v2 ⟨rfl, hr2⟩; have hB2 : Below wb.heap.size wb v2 := below_step (by (repeat (first | with_reducible refine bel_drew ?_ | with_reducible refine bel_alloc ?_)); with_reducible exact hp) hr2) | (go_at_call 11; have hp := hB0; refine (ref_of Put_msg Y [.int .i64 z0, .int .i64 z1, .int .i64 z2, .int .i64 z3, .int .i64 z4, .int .i64 z5, .int .i64 z6, .bool z7, .slice Az8 z8.length capz8, .string z9] R HR.out _ _ (HDb.out.below (by (repeat (first | with_reducible refine bel_drew ?_ | with_reducible refine bel_alloc ?_)); with_reducible exact hp)) HOY.out (Nat.le_trans HLY.out (by decide))).mono ?_; rintro e v1 ⟨rfl, hr1⟩; have hB1 : Below wb.heap.size wb v1 := below_step (by (repeat (first | with_reducible refine bel_drew ?_ | with_reducible refine bel_alloc ?_)); with_reducible exact hp) hr1))
          all_goals
            go_wp2_with fail
            go_ret
            exact ⟨rfl, below_step HBb.out hB3⟩
        · exact absurd hx (cuts_some HOX.out HSD.out)
      · rcases hr with ⟨x', cs', hx, rfl, hH⟩ | ⟨hx, rfl⟩
        · exact absurd hx (cuts_none HOX.out HSD.out hm0)
        · have hz : tMsg.zcells.toArray = #[.int .i64 0, .int .i64 0, .int .i64 0, .int .i64 0, .int .i64 0, .int .i64 0, .int .i64 0, .bool false, .slice none 0 0, .string ⟨#[]⟩] := rfl
          rw [hz]
          have hb6 : Below w5.heap.size w5 (w5.alloc (.cells #[.int .i64 0, .int .i64 0, .int .i64 0, .int .i64 0, .int .i64 0, .int .i64 0, .int .i64 0, .bool false, .slice none 0 0, .string ⟨#[]⟩] 24)) := (Below.refl _ _).alloc (Nat.le_refl _) _
          obtain ⟨wb, hwb⟩ : ∃ wb, w5.alloc (.cells #[.int .i64 0, .int .i64 0, .int .i64 0, .int .i64 0, .int .i64 0, .int .i64 0, .int .i64 0, .bool false, .slice none 0 0, .string ⟨#[]⟩] 24) = wb := ⟨_, rfl⟩
          rw [hwb] at hb6
          have HKb := Lib.hid ((hb6.block w.heap.size (by omega)).trans HK5.out)
          have HKc := Lib.hid ((hb6.block (w.heap.size + 1) (by omega)).trans HK6.out)
          have HBb := Lib.hid (below_step HB5.out hb6)
          have HCb := Lib.hid (HC5.out.below hb6)
          have HDb := Lib.hid (HD5.out.below hb6)
          clear hb6
          have hq1 := str_ne (a := more) (b := (⟨#[]⟩ : ByteArray)) (fun he => hm0 (by rw [he]))
          have hq2 : more.toList = [] ↔ False := by rw [ByteArray.toList_eq]; exact ⟨hm0, fun h => h.elim⟩
          have hq3 : more.toList.isEmpty = false := by rw [ByteArray.toList_eq]; simpa using hm0
          have HWB := Lib.hid hwb
          clear hz hx hm0 hwb
          go_wp2_with fail
          rw [HWB.out]
          have hB0 : Below wb.heap.size wb wb := Below.refl _ _
          have qy0 : wb.cell? ⟨w.heap.size, 0, none⟩ = some (.int .i64 y0) := (blk_cell HKb.out 0).trans rfl
          have qy1 : wb.cell? ⟨w.heap.size, 1, none⟩ = some (.int .i64 y1) := (blk_cell HKb.out 1).trans rfl
          have qy2 : wb.cell? ⟨w.heap.size, 2, none⟩ = some (.int .i64 y2) := (blk_cell HKb.out 2).trans rfl
          have qy3 : wb.cell? ⟨w.heap.size, 3, none⟩ = some (.int .i64 y3) := (blk_cell HKb.out 3).trans rfl
          have qy4 : wb.cell? ⟨w.heap.size, 4, none⟩ = some (.int .i64 y4) := (blk_cell HKb.out 4).trans rfl
          have qy5 : wb.cell? ⟨w.heap.size, 5, none⟩ = some (.int .i64 y5) := (blk_cell HKb.out 5).trans rfl
          have qy6 : wb.cell? ⟨w.heap.size, 6, none⟩ = some (.int .i64 y6) := (blk_cell HKb.out 6).trans rfl
          have qy7 : wb.cell? ⟨w.heap.size, 7, none⟩ = some (.bool y7) := (blk_cell HKb.out 7).trans rfl
          have qy8 : wb.cell? ⟨w.heap.size, 8, none⟩ = some (.slice A8 y8.length cap8) := (blk_cell HKb.out 8).trans rfl
          have qy9 : wb.cell? ⟨w.heap.size, 9, none⟩ = some (.string y9) := (blk_cell HKb.out 9).trans rfl
          have qz0 : wb.cell? ⟨w.heap.size + 1, 0, none⟩ = some (.int .i64 z0) := (blk_cell HKc.out 0).trans rfl
          have qz1 : wb.cell? ⟨w.heap.size + 1, 1, none⟩ = some (.int .i64 z1) := (blk_cell HKc.out 1).trans rfl
          have qz2 : wb.cell? ⟨w.heap.size + 1, 2, none⟩ = some (.int .i64 z2) := (blk_cell HKc.out 2).trans rfl
          have qz3 : wb.cell? ⟨w.heap.size + 1, 3, none⟩ = some (.int .i64 z3) := (blk_cell HKc.out 3).trans rfl
          have qz4 : wb.cell? ⟨w.heap.size + 1, 4, none⟩ = some (.int .i64 z4) := (blk_cell HKc.out 4).trans rfl
          have qz5 : wb.cell? ⟨w.heap.size + 1, 5, none⟩ = some (.int .i64 z5) := (blk_cell HKc.out 5).trans rfl
          have qz6 : wb.cell? ⟨w.heap.size + 1, 6, none⟩ = some (.int .i64 z6) := (blk_cell HKc.out 6).trans rfl
          have qz7 : wb.cell? ⟨w.heap.size + 1, 7, none⟩ = some (.bool z7) := (blk_cell HKc.out 7).trans rfl
          have qz8 : wb.cell? ⟨w.heap.size + 1, 8, none⟩ = some (.slice Az8 z8.length capz8) := (blk_cell HKc.out 8).trans rfl
          have qz9 : wb.cell? ⟨w.heap.size + 1, 9, none⟩ = some (.string z9) := (blk_cell HKc.out 9).trans rfl
          have KK : Hid (∀ w', Below wb.heap.size wb w' → (Below wb.heap.size wb w' ∧ w'.cell? ⟨w.heap.size, 0, none⟩ = some (.int .i64 y0) ∧ w'.cell? ⟨w.heap.size, 1, none⟩ = some (.int .i64 y1) ∧ w'.cell? ⟨w.heap.size, 2, none⟩ = some (.int .i64 y2) ∧ w'.cell? ⟨w.heap.size, 3, none⟩ = some (.int .i64 y3) ∧ w'.cell? ⟨w.heap.size, 4, none⟩ = some (.int .i64 y4) ∧ w'.cell? ⟨w.heap.size, 5, none⟩ = some (.int .i64 y5) ∧ w'.cell? ⟨w.heap.size, 6, none⟩ = some (.int .i64 y6) ∧ w'.cell? ⟨w.heap.size, 7, none⟩ = some (.bool y7) ∧ w'.cell? ⟨w.heap.size, 8, none⟩ = some (.slice A8 y8.length cap8) ∧ w'.cell? ⟨w.heap.size, 9, none⟩ = some (.string y9) ∧ w'.cell? ⟨w.heap.size + 1, 0, none⟩ = some (.int .i64 z0) ∧ w'.cell? ⟨w.heap.size + 1, 1, none⟩ = some (.int .i64 z1) ∧ w'.cell? ⟨w.heap.size + 1, 2, none⟩ = some (.int .i64 z2) ∧ w'.cell? ⟨w.heap.size + 1, 3, none⟩ = some (.int .i64 z3) ∧ w'.cell? ⟨w.heap.size + 1, 4, none⟩ = some (.int .i64 z4) ∧ w'.cell? ⟨w.heap.size + 1, 5, none⟩ = some (.int .i64 z5) ∧ w'.cell? ⟨w.heap.size + 1, 6, none⟩ = some (.int .i64 z6) ∧ w'.cell? ⟨w.heap.size + 1, 7, none⟩ = some (.bool z7) ∧ w'.cell? ⟨w.heap.size + 1, 8, none⟩ = some (.slice Az8 z8.length capz8) ∧ w'.cell? ⟨w.heap.size + 1, 9, none⟩ = some (.string z9))) := Lib.hid (fun w' hX => ⟨hX, keepP qy0 hX, keepP qy1 hX, keepP qy2 hX, keepP qy3 hX, keepP qy4 hX, keepP qy5 hX, keepP qy6 hX, keepP qy7 hX, keepP qy8 hX, keepP qy9 hX, keepP qz0 hX, keepP qz1 hX, keepP qz2 hX, keepP qz3 hX, keepP qz4 hX, keepP qz5 hX, keepP qz6 hX, keepP qz7 hX, keepP qz8 hX, keepP qz9 hX⟩)
          go_region_held3 (fun w' => Below wb.heap.size wb w' ∧ w'.cell? ⟨w.heap.size, 0, none⟩ = some (.int .i64 y0) ∧ w'.cell? ⟨w.heap.size, 1, none⟩ = some (.int .i64 y1) ∧ w'.cell? ⟨w.heap.size, 2, none⟩ = some (.int .i64 y2) ∧ w'.cell? ⟨w.heap.size, 3, none⟩ = some (.int .i64 y3) ∧ w'.cell? ⟨w.heap.size, 4, none⟩ = some (.int .i64 y4) ∧ w'.cell? ⟨w.heap.size, 5, none⟩ = some (.int .i64 y5) ∧ w'.cell? ⟨w.heap.size, 6, none⟩ = some (.int .i64 y6) ∧ w'.cell? ⟨w.heap.size, 7, none⟩ = some (.bool y7) ∧ w'.cell? ⟨w.heap.size, 8, none⟩ = some (.slice A8 y8.length cap8) ∧ w'.cell? ⟨w.heap.size, 9, none⟩ = some (.string y9) ∧ w'.cell? ⟨w.heap.size + 1, 0, none⟩ = some (.int .i64 z0) ∧ w'.cell? ⟨w.heap.size + 1, 1, none⟩ = some (.int .i64 z1) ∧ w'.cell? ⟨w.heap.size + 1, 2, none⟩ = some (.int .i64 z2) ∧ w'.cell? ⟨w.heap.size + 1, 3, none⟩ = some (.int .i64 z3) ∧ w'.cell? ⟨w.heap.size + 1, 4, none⟩ = some (.int .i64 z4) ∧ w'.cell? ⟨w.heap.size + 1, 5, none⟩ = some (.int .i64 z5) ∧ w'.cell? ⟨w.heap.size + 1, 6, none⟩ = some (.int .i64 z6) ∧ w'.cell? ⟨w.heap.size + 1, 7, none⟩ = some (.bool z7) ∧ w'.cell? ⟨w.heap.size + 1, 8, none⟩ = some (.slice Az8 z8.length capz8) ∧ w'.cell? ⟨w.heap.size + 1, 9, none⟩ = some (.string z9))
            (first | ((with_reducible refine KK.out _ ?_); (repeat (first | with_reducible refine bel_drew ?_ | with_reducible refine bel_alloc ?_)); first | with_reducible exact hB3 | with_reducible exact hB2 | with_reducible exact hB1 | with_reducible exact hB0))
            (first | (go_at_call 13; have hp := hB2; refine (ref_of msg_ref X [.int .i64 y0, .int .i64 y1, .int .i64 y2, .int .i64 y3, .int .i64 y4, .int .i64 y5, .int .i64 y6, .bool y7, .slice A8 y8.length cap8, .string y9] S HS.out _ _ (HCb.out.below (by (repeat (first | with_reducible refine bel_drew ?_ | with_reducible refine bel_alloc ?_)); with_reducible exact hp)) HOX.out (Nat.le_trans HLX.out (by decide))).mono ?_; rintro e v3 ⟨rfl, hr3⟩; have hB3 : Below wb.heap.size wb v3 := below_step (by (repeat (first | with_reducible refine bel_drew ?_ | with_reducible refine bel_alloc ?_)); with_reducible exact hp) hr3) | (go_at_call 13; have hp := hB1; refine (ref_of msg_ref Y [.int .i64 z0, .int .i64 z1, .int .i64 z2, .int .i64 z3, .int .i64 z4, .int .i64 z5, .int .i64 z6, .bool z7, .slice Az8 z8.length capz8, .string z9] R HR.out _ _ (HDb.out.below (by (repeat (first | with_reducible refine bel_drew ?_ | with_reducible refine bel_alloc ?_)); with_reducible exact hp)) HOY.out (Nat.le_trans HLY.out (by decide))).mono ?_; rintro e v2 ⟨rfl, hr2⟩; have hB2 : Below wb.heap.size wb v2 := below_step (by (repeat (first | with_reducible refine bel_drew ?_ | with_reducible refine bel_alloc ?_)); with_reducible exact hp) hr2) | (go_at_call 11; have hp := hB0; refine (ref_of Put_msg Y [.int .i64 z0, .int .i64 z1, .int .i64 z2, .int .i64 z3, .int .i64 z4, .int .i64 z5, .int .i64 z6, .bool z7, .slice Az8 z8.length capz8, .string z9] R HR.out _ _ (HDb.out.below (by (repeat (first | with_reducible refine bel_drew ?_ | with_reducible refine bel_alloc ?_)); with_reducible exact hp)) HOY.out (Nat.le_trans HLY.out (by decide))).mono ?_; rintro e v1 ⟨rfl, hr1⟩; have hB1 : Below wb.heap.size wb v1 := below_step (by (repeat (first | with_reducible refine bel_drew ?_ | with_reducible refine bel_alloc ?_)); with_reducible exact hp) hr1))
          all_goals
            go_wp2_with fail
            go_ret
            exact ⟨rfl, below_step HBb.out hB3⟩
    · go_wp2_with fail
      refine (Get_msg (S ++ more) _ (by rw [ByteArray.size_append]; omega)).mono ?_
      rintro e w5 ⟨hb5, hr⟩
      have HK5 := Lib.hid ((hb5.block w.heap.size (by have := hlt2; simp; omega)).trans HK3.out)
      have HK6 := Lib.hid ((hb5.block (w.heap.size + 1) (by have := hlt2; simp; omega)).trans HK4.out)
      have HB5 := Lib.hid (below_step HB2.out hb5)
      have HC5 := Lib.hid (HC2.out.below hb5)
      have HD5 := Lib.hid (HD2.out.below hb5)
      have hlt5 : w.heap.size + 1 < w5.heap.size := Nat.lt_of_lt_of_le hlt2 (Nat.le_trans (by simp) hb5.size)
      clear hb5
      by_cases hm0 : more.data.toList = []
      · obtain rfl : more = (⟨#[]⟩ : ByteArray) := by cases more; simpa using hm0
        rcases hr with ⟨x', cs', hx, rfl, hH⟩ | ⟨hx, rfl⟩
        · have hl := hH.len
          have h1 := all_one hH.one
          obtain ⟨u0, u1, u2, u3, u4, u5, u6, u7, u8, u9, rfl⟩ : ∃ u0 u1 u2 u3 u4 u5 u6 u7 u8 u9, cs' = [u0, u1, u2, u3, u4, u5, u6, u7, u8, u9] := by
            match cs', hl with
            | [u0, u1, u2, u3, u4, u5, u6, u7, u8, u9], _ => exact ⟨u0, u1, u2, u3, u4, u5, u6, u7, u8, u9, rfl⟩
          have H1 := Lib.hid h1
          have hb6 : Below w5.heap.size w5 (w5.alloc (.cells #[u0, u1, u2, u3, u4, u5, u6, u7, u8, u9] 24)) := (Below.refl _ _).alloc (Nat.le_refl _) _
          obtain ⟨wb, hwb⟩ : ∃ wb, w5.alloc (.cells #[u0, u1, u2, u3, u4, u5, u6, u7, u8, u9] 24) = wb := ⟨_, rfl⟩
          rw [hwb] at hb6
          have HKb := Lib.hid ((hb6.block w.heap.size (by omega)).trans HK5.out)
          have HKc := Lib.hid ((hb6.block (w.heap.size + 1) (by omega)).trans HK6.out)
          have HBb := Lib.hid (below_step HB5.out hb6)
          have HCb := Lib.hid (HC5.out.below hb6)
          have HDb := Lib.hid (HD5.out.below hb6)
          clear hb6
          clear hl h1 hH hx hm0
          go_wp2_with (first | ((with_reducible refine gate_store (t := 24) (p := .tmp 12) (x := .tmp 70) rfl ?_); refine wpList_store_new (t := 24) rfl (.tmp 12) (.tmp 70) rfl #[u0, u1, u2, u3, u4, u5, u6, u7, u8, u9] (by rfl) (by rfl) (by kernel_rfl) rfl H1.out ?_; rw [hwb]))
          clear hwb
          have hB0 : Below wb.heap.size wb wb := Below.refl _ _
          have qy0 : wb.cell? ⟨w.heap.size, 0, none⟩ = some (.int .i64 y0) := (blk_cell HKb.out 0).trans rfl
          have qy1 : wb.cell? ⟨w.heap.size, 1, none⟩ = some (.int .i64 y1) := (blk_cell HKb.out 1).trans rfl
          have qy2 : wb.cell? ⟨w.heap.size, 2, none⟩ = some (.int .i64 y2) := (blk_cell HKb.out 2).trans rfl
          have qy3 : wb.cell? ⟨w.heap.size, 3, none⟩ = some (.int .i64 y3) := (blk_cell HKb.out 3).trans rfl
          have qy4 : wb.cell? ⟨w.heap.size, 4, none⟩ = some (.int .i64 y4) := (blk_cell HKb.out 4).trans rfl
          have qy5 : wb.cell? ⟨w.heap.size, 5, none⟩ = some (.int .i64 y5) := (blk_cell HKb.out 5).trans rfl
          have qy6 : wb.cell? ⟨w.heap.size, 6, none⟩ = some (.int .i64 y6) := (blk_cell HKb.out 6).trans rfl
          have qy7 : wb.cell? ⟨w.heap.size, 7, none⟩ = some (.bool y7) := (blk_cell HKb.out 7).trans rfl
          have qy8 : wb.cell? ⟨w.heap.size, 8, none⟩ = some (.slice A8 y8.length cap8) := (blk_cell HKb.out 8).trans rfl
          have qy9 : wb.cell? ⟨w.heap.size, 9, none⟩ = some (.string y9) := (blk_cell HKb.out 9).trans rfl
          have qz0 : wb.cell? ⟨w.heap.size + 1, 0, none⟩ = some (.int .i64 z0) := (blk_cell HKc.out 0).trans rfl
          have qz1 : wb.cell? ⟨w.heap.size + 1, 1, none⟩ = some (.int .i64 z1) := (blk_cell HKc.out 1).trans rfl
          have qz2 : wb.cell? ⟨w.heap.size + 1, 2, none⟩ = some (.int .i64 z2) := (blk_cell HKc.out 2).trans rfl
          have qz3 : wb.cell? ⟨w.heap.size + 1, 3, none⟩ = some (.int .i64 z3) := (blk_cell HKc.out 3).trans rfl
          have qz4 : wb.cell? ⟨w.heap.size + 1, 4, none⟩ = some (.int .i64 z4) := (blk_cell HKc.out 4).trans rfl
          have qz5 : wb.cell? ⟨w.heap.size + 1, 5, none⟩ = some (.int .i64 z5) := (blk_cell HKc.out 5).trans rfl
          have qz6 : wb.cell? ⟨w.heap.size + 1, 6, none⟩ = some (.int .i64 z6) := (blk_cell HKc.out 6).trans rfl
          have qz7 : wb.cell? ⟨w.heap.size + 1, 7, none⟩ = some (.bool z7) := (blk_cell HKc.out 7).trans rfl
          have qz8 : wb.cell? ⟨w.heap.size + 1, 8, none⟩ = some (.slice Az8 z8.length capz8) := (blk_cell HKc.out 8).trans rfl
          have qz9 : wb.cell? ⟨w.heap.size + 1, 9, none⟩ = some (.string z9) := (blk_cell HKc.out 9).trans rfl
          have KK : Hid (∀ w', Below wb.heap.size wb w' → (Below wb.heap.size wb w' ∧ w'.cell? ⟨w.heap.size, 0, none⟩ = some (.int .i64 y0) ∧ w'.cell? ⟨w.heap.size, 1, none⟩ = some (.int .i64 y1) ∧ w'.cell? ⟨w.heap.size, 2, none⟩ = some (.int .i64 y2) ∧ w'.cell? ⟨w.heap.size, 3, none⟩ = some (.int .i64 y3) ∧ w'.cell? ⟨w.heap.size, 4, none⟩ = some (.int .i64 y4) ∧ w'.cell? ⟨w.heap.size, 5, none⟩ = some (.int .i64 y5) ∧ w'.cell? ⟨w.heap.size, 6, none⟩ = some (.int .i64 y6) ∧ w'.cell? ⟨w.heap.size, 7, none⟩ = some (.bool y7) ∧ w'.cell? ⟨w.heap.size, 8, none⟩ = some (.slice A8 y8.length cap8) ∧ w'.cell? ⟨w.heap.size, 9, none⟩ = some (.string y9) ∧ w'.cell? ⟨w.heap.size + 1, 0, none⟩ = some (.int .i64 z0) ∧ w'.cell? ⟨w.heap.size + 1, 1, none⟩ = some (.int .i64 z1) ∧ w'.cell? ⟨w.heap.size + 1, 2, none⟩ = some (.int .i64 z2) ∧ w'.cell? ⟨w.heap.size + 1, 3, none⟩ = some (.int .i64 z3) ∧ w'.cell? ⟨w.heap.size + 1, 4, none⟩ = some (.int .i64 z4) ∧ w'.cell? ⟨w.heap.size + 1, 5, none⟩ = some (.int .i64 z5) ∧ w'.cell? ⟨w.heap.size + 1, 6, none⟩ = some (.int .i64 z6) ∧ w'.cell? ⟨w.heap.size + 1, 7, none⟩ = some (.bool z7) ∧ w'.cell? ⟨w.heap.size + 1, 8, none⟩ = some (.slice Az8 z8.length capz8) ∧ w'.cell? ⟨w.heap.size + 1, 9, none⟩ = some (.string z9))) := Lib.hid (fun w' hX => ⟨hX, keepP qy0 hX, keepP qy1 hX, keepP qy2 hX, keepP qy3 hX, keepP qy4 hX, keepP qy5 hX, keepP qy6 hX, keepP qy7 hX, keepP qy8 hX, keepP qy9 hX, keepP qz0 hX, keepP qz1 hX, keepP qz2 hX, keepP qz3 hX, keepP qz4 hX, keepP qz5 hX, keepP qz6 hX, keepP qz7 hX, keepP qz8 hX, keepP qz9 hX⟩)
          go_region_held3 (fun w' => Below wb.heap.size wb w' ∧ w'.cell? ⟨w.heap.size, 0, none⟩ = some (.int .i64 y0) ∧ w'.cell? ⟨w.heap.size, 1, none⟩ = some (.int .i64 y1) ∧ w'.cell? ⟨w.heap.size, 2, none⟩ = some (.int .i64 y2) ∧ w'.cell? ⟨w.heap.size, 3, none⟩ = some (.int .i64 y3) ∧ w'.cell? ⟨w.heap.size, 4, none⟩ = some (.int .i64 y4) ∧ w'.cell? ⟨w.heap.size, 5, none⟩ = some (.int .i64 y5) ∧ w'.cell? ⟨w.heap.size, 6, none⟩ = some (.int .i64 y6) ∧ w'.cell? ⟨w.heap.size, 7, none⟩ = some (.bool y7) ∧ w'.cell? ⟨w.heap.size, 8, none⟩ = some (.slice A8 y8.length cap8) ∧ w'.cell? ⟨w.heap.size, 9, none⟩ = some (.string y9) ∧ w'.cell? ⟨w.heap.size + 1, 0, none⟩ = some (.int .i64 z0) ∧ w'.cell? ⟨w.heap.size + 1, 1, none⟩ = some (.int .i64 z1) ∧ w'.cell? ⟨w.heap.size + 1, 2, none⟩ = some (.int .i64 z2) ∧ w'.cell? ⟨w.heap.size + 1, 3, none⟩ = some (.int .i64 z3) ∧ w'.cell? ⟨w.heap.size + 1, 4, none⟩ = some (.int .i64 z4) ∧ w'.cell? ⟨w.heap.size + 1, 5, none⟩ = some (.int .i64 z5) ∧ w'.cell? ⟨w.heap.size + 1, 6, none⟩ = some (.int .i64 z6) ∧ w'.cell? ⟨w.heap.size + 1, 7, none⟩ = some (.bool z7) ∧ w'.cell? ⟨w.heap.size + 1, 8, none⟩ = some (.slice Az8 z8.length capz8) ∧ w'.cell? ⟨w.heap.size + 1, 9, none⟩ = some (.string z9))
            (first | ((with_reducible refine KK.out _ ?_); (repeat (first | with_reducible refine bel_drew ?_ | with_reducible refine bel_alloc ?_)); first | with_reducible exact hB3 | with_reducible exact hB2 | with_reducible exact hB1 | with_reducible exact hB0))
            (first | (go_at_call 13; have hp := hB2; refine (ref_of msg_ref X [.int .i64 y0, .int .i64 y1, .int .i64 y2, .int .i64 y3, .int .i64 y4, .int .i64 y5, .int .i64 y6, .bool y7, .slice A8 y8.length cap8, .string y9] S HS.out _ _ (HCb.out.below (by (repeat (first | with_reducible refine bel_drew ?_ | with_reducible refine bel_alloc ?_)); with_reducible exact hp)) HOX.out (Nat.le_trans HLX.out (by decide))).mono ?_; rintro e v3 ⟨rfl, hr3⟩; have hB3 : Below wb.heap.size wb v3 := below_step (by (repeat (first | with_reducible refine bel_drew ?_ | with_reducible refine bel_alloc ?_)); with_reducible exact hp) hr3) | (go_at_call 13; have hp := hB1; refine (ref_of msg_ref Y [.int .i64 z0, .int .i64 z1, .int .i64 z2, .int .i64 z3, .int .i64 z4, .int .i64 z5, .int .i64 z6, .bool z7, .slice Az8 z8.length capz8, .string z9] R HR.out _ _ (HDb.out.below (by (repeat (first | with_reducible refine bel_drew ?_ | with_reducible refine bel_alloc ?_)); with_reducible exact hp)) HOY.out (Nat.le_trans HLY.out (by decide))).mono ?_; rintro e v2 ⟨rfl, hr2⟩; have hB2 : Below wb.heap.size wb v2 := below_step (by (repeat (first | with_reducible refine bel_drew ?_ | with_reducible refine bel_alloc ?_)); with_reducible exact hp) hr2) | (go_at_call 11; have hp := hB0; refine (ref_of Put_msg Y [.int .i64 z0, .int .i64 z1, .int .i64 z2, .int .i64 z3, .int .i64 z4, .int .i64 z5, .int .i64 z6, .bool z7, .slice Az8 z8.length capz8, .string z9] R HR.out _ _ (HDb.out.below (by (repeat (first | with_reducible refine bel_drew ?_ | with_reducible refine bel_alloc ?_)); with_reducible exact hp)) HOY.out (Nat.le_trans HLY.out (by decide))).mono ?_; rintro e v1 ⟨rfl, hr1⟩; have hB1 : Below wb.heap.size wb v1 := below_step (by (repeat (first | with_reducible refine bel_drew ?_ | with_reducible refine bel_alloc ?_)); with_reducible exact hp) hr1))
          all_goals
            go_wp2_with fail
            go_ret
            exact ⟨rfl, below_step HBb.out hB3⟩
        · exact absurd hx (cuts_some HOX.out HSD.out)
      · rcases hr with ⟨x', cs', hx, rfl, hH⟩ | ⟨hx, rfl⟩
        · exact absurd hx (cuts_none HOX.out HSD.out hm0)
        · have hz : tMsg.zcells.toArray = #[.int .i64 0, .int .i64 0, .int .i64 0, .int .i64 0, .int .i64 0, .int .i64 0, .int .i64 0, .bool false, .slice none 0 0, .string ⟨#[]⟩] := rfl
          rw [hz]
          have hb6 : Below w5.heap.size w5 (w5.alloc (.cells #[.int .i64 0, .int .i64 0, .int .i64 0, .int .i64 0, .int .i64 0, .int .i64 0, .int .i64 0, .bool false, .slice none 0 0, .string ⟨#[]⟩] 24)) := (Below.refl _ _).alloc (Nat.le_refl _) _
          obtain ⟨wb, hwb⟩ : ∃ wb, w5.alloc (.cells #[.int .i64 0, .int .i64 0, .int .i64 0, .int .i64 0, .int .i64 0, .int .i64 0, .int .i64 0, .bool false, .slice none 0 0, .string ⟨#[]⟩] 24) = wb := ⟨_, rfl⟩
          rw [hwb] at hb6
          have HKb := Lib.hid ((hb6.block w.heap.size (by omega)).trans HK5.out)
          have HKc := Lib.hid ((hb6.block (w.heap.size + 1) (by omega)).trans HK6.out)
          have HBb := Lib.hid (below_step HB5.out hb6)
          have HCb := Lib.hid (HC5.out.below hb6)
          have HDb := Lib.hid (HD5.out.below hb6)
          clear hb6
          have hq1 := str_ne (a := more) (b := (⟨#[]⟩ : ByteArray)) (fun he => hm0 (by rw [he]))
          have hq2 : more.toList = [] ↔ False := by rw [ByteArray.toList_eq]; exact ⟨hm0, fun h => h.elim⟩
          have hq3 : more.toList.isEmpty = false := by rw [ByteArray.toList_eq]; simpa using hm0
          have HWB := Lib.hid hwb
          clear hz hx hm0 hwb
          go_wp2_with fail
          rw [HWB.out]
          have hB0 : Below wb.heap.size wb wb := Below.refl _ _
          have qy0 : wb.cell? ⟨w.heap.size, 0, none⟩ = some (.int .i64 y0) := (blk_cell HKb.out 0).trans rfl
          have qy1 : wb.cell? ⟨w.heap.size, 1, none⟩ = some (.int .i64 y1) := (blk_cell HKb.out 1).trans rfl
          have qy2 : wb.cell? ⟨w.heap.size, 2, none⟩ = some (.int .i64 y2) := (blk_cell HKb.out 2).trans rfl
          have qy3 : wb.cell? ⟨w.heap.size, 3, none⟩ = some (.int .i64 y3) := (blk_cell HKb.out 3).trans rfl
          have qy4 : wb.cell? ⟨w.heap.size, 4, none⟩ = some (.int .i64 y4) := (blk_cell HKb.out 4).trans rfl
          have qy5 : wb.cell? ⟨w.heap.size, 5, none⟩ = some (.int .i64 y5) := (blk_cell HKb.out 5).trans rfl
          have qy6 : wb.cell? ⟨w.heap.size, 6, none⟩ = some (.int .i64 y6) := (blk_cell HKb.out 6).trans rfl
          have qy7 : wb.cell? ⟨w.heap.size, 7, none⟩ = some (.bool y7) := (blk_cell HKb.out 7).trans rfl
          have qy8 : wb.cell? ⟨w.heap.size, 8, none⟩ = some (.slice A8 y8.length cap8) := (blk_cell HKb.out 8).trans rfl
          have qy9 : wb.cell? ⟨w.heap.size, 9, none⟩ = some (.string y9) := (blk_cell HKb.out 9).trans rfl
          have qz0 : wb.cell? ⟨w.heap.size + 1, 0, none⟩ = some (.int .i64 z0) := (blk_cell HKc.out 0).trans rfl
          have qz1 : wb.cell? ⟨w.heap.size + 1, 1, none⟩ = some (.int .i64 z1) := (blk_cell HKc.out 1).trans rfl
          have qz2 : wb.cell? ⟨w.heap.size + 1, 2, none⟩ = some (.int .i64 z2) := (blk_cell HKc.out 2).trans rfl
          have qz3 : wb.cell? ⟨w.heap.size + 1, 3, none⟩ = some (.int .i64 z3) := (blk_cell HKc.out 3).trans rfl
          have qz4 : wb.cell? ⟨w.heap.size + 1, 4, none⟩ = some (.int .i64 z4) := (blk_cell HKc.out 4).trans rfl
          have qz5 : wb.cell? ⟨w.heap.size + 1, 5, none⟩ = some (.int .i64 z5) := (blk_cell HKc.out 5).trans rfl
          have qz6 : wb.cell? ⟨w.heap.size + 1, 6, none⟩ = some (.int .i64 z6) := (blk_cell HKc.out 6).trans rfl
          have qz7 : wb.cell? ⟨w.heap.size + 1, 7, none⟩ = some (.bool z7) := (blk_cell HKc.out 7).trans rfl
          have qz8 : wb.cell? ⟨w.heap.size + 1, 8, none⟩ = some (.slice Az8 z8.length capz8) := (blk_cell HKc.out 8).trans rfl
          have qz9 : wb.cell? ⟨w.heap.size + 1, 9, none⟩ = some (.string z9) := (blk_cell HKc.out 9).trans rfl
          have KK : Hid (∀ w', Below wb.heap.size wb w' → (Below wb.heap.size wb w' ∧ w'.cell? ⟨w.heap.size, 0, none⟩ = some (.int .i64 y0) ∧ w'.cell? ⟨w.heap.size, 1, none⟩ = some (.int .i64 y1) ∧ w'.cell? ⟨w.heap.size, 2, none⟩ = some (.int .i64 y2) ∧ w'.cell? ⟨w.heap.size, 3, none⟩ = some (.int .i64 y3) ∧ w'.cell? ⟨w.heap.size, 4, none⟩ = some (.int .i64 y4) ∧ w'.cell? ⟨w.heap.size, 5, none⟩ = some (.int .i64 y5) ∧ w'.cell? ⟨w.heap.size, 6, none⟩ = some (.int .i64 y6) ∧ w'.cell? ⟨w.heap.size, 7, none⟩ = some (.bool y7) ∧ w'.cell? ⟨w.heap.size, 8, none⟩ = some (.slice A8 y8.length cap8) ∧ w'.cell? ⟨w.heap.size, 9, none⟩ = some (.string y9) ∧ w'.cell? ⟨w.heap.size + 1, 0, none⟩ = some (.int .i64 z0) ∧ w'.cell? ⟨w.heap.size + 1, 1, none⟩ = some (.int .i64 z1) ∧ w'.cell? ⟨w.heap.size + 1, 2, none⟩ = some (.int .i64 z2) ∧ w'.cell? ⟨w.heap.size + 1, 3, none⟩ = some (.int .i64 z3) ∧ w'.cell? ⟨w.heap.size + 1, 4, none⟩ = some (.int .i64 z4) ∧ w'.cell? ⟨w.heap.size + 1, 5, none⟩ = some (.int .i64 z5) ∧ w'.cell? ⟨w.heap.size + 1, 6, none⟩ = some (.int .i64 z6) ∧ w'.cell? ⟨w.heap.size + 1, 7, none⟩ = some (.bool z7) ∧ w'.cell? ⟨w.heap.size + 1, 8, none⟩ = some (.slice Az8 z8.length capz8) ∧ w'.cell? ⟨w.heap.size + 1, 9, none⟩ = some (.string z9))) := Lib.hid (fun w' hX => ⟨hX, keepP qy0 hX, keepP qy1 hX, keepP qy2 hX, keepP qy3 hX, keepP qy4 hX, keepP qy5 hX, keepP qy6 hX, keepP qy7 hX, keepP qy8 hX, keepP qy9 hX, keepP qz0 hX, keepP qz1 hX, keepP qz2 hX, keepP qz3 hX, keepP qz4 hX, keepP qz5 hX, keepP qz6 hX, keepP qz7 hX, keepP qz8 hX, keepP qz9 hX⟩)
          go_region_held3 (fun w' => Below wb.heap.size wb w' ∧ w'.cell? ⟨w.heap.size, 0, none⟩ = some (.int .i64 y0) ∧ w'.cell? ⟨w.heap.size, 1, none⟩ = some (.int .i64 y1) ∧ w'.cell? ⟨w.heap.size, 2, none⟩ = some (.int .i64 y2) ∧ w'.cell? ⟨w.heap.size, 3, none⟩ = some (.int .i64 y3) ∧ w'.cell? ⟨w.heap.size, 4, none⟩ = some (.int .i64 y4) ∧ w'.cell? ⟨w.heap.size, 5, none⟩ = some (.int .i64 y5) ∧ w'.cell? ⟨w.heap.size, 6, none⟩ = some (.int .i64 y6) ∧ w'.cell? ⟨w.heap.size, 7, none⟩ = some (.bool y7) ∧ w'.cell? ⟨w.heap.size, 8, none⟩ = some (.slice A8 y8.length cap8) ∧ w'.cell? ⟨w.heap.size, 9, none⟩ = some (.string y9) ∧ w'.cell? ⟨w.heap.size + 1, 0, none⟩ = some (.int .i64 z0) ∧ w'.cell? ⟨w.heap.size + 1, 1, none⟩ = some (.int .i64 z1) ∧ w'.cell? ⟨w.heap.size + 1, 2, none⟩ = some (.int .i64 z2) ∧ w'.cell? ⟨w.heap.size + 1, 3, none⟩ = some (.int .i64 z3) ∧ w'.cell? ⟨w.heap.size + 1, 4, none⟩ = some (.int .i64 z4) ∧ w'.cell? ⟨w.heap.size + 1, 5, none⟩ = some (.int .i64 z5) ∧ w'.cell? ⟨w.heap.size + 1, 6, none⟩ = some (.int .i64 z6) ∧ w'.cell? ⟨w.heap.size + 1, 7, none⟩ = some (.bool z7) ∧ w'.cell? ⟨w.heap.size + 1, 8, none⟩ = some (.slice Az8 z8.length capz8) ∧ w'.cell? ⟨w.heap.size + 1, 9, none⟩ = some (.string z9))
            (first | ((with_reducible refine KK.out _ ?_); (repeat (first | with_reducible refine bel_drew ?_ | with_reducible refine bel_alloc ?_)); first | with_reducible exact hB3 | with_reducible exact hB2 | with_reducible exact hB1 | with_reducible exact hB0))
            (first | (go_at_call 13; have hp := hB2; refine (ref_of msg_ref X [.int .i64 y0, .int .i64 y1, .int .i64 y2, .int .i64 y3, .int .i64 y4, .int .i64 y5, .int .i64 y6, .bool y7, .slice A8 y8.length cap8, .string y9] S HS.out _ _ (HCb.out.below (by (repeat (first | with_reducible refine bel_drew ?_ | with_reducible refine bel_alloc ?_)); with_reducible exact hp)) HOX.out (Nat.le_trans HLX.out (by decide))).mono ?_; rintro e v3 ⟨rfl, hr3⟩; have hB3 : Below wb.heap.size wb v3 := below_step (by (repeat (first | with_reducible refine bel_drew ?_ | with_reducible refine bel_alloc ?_)); with_reducible exact hp) hr3) | (go_at_call 13; have hp := hB1; refine (ref_of msg_ref Y [.int .i64 z0, .int .i64 z1, .int .i64 z2, .int .i64 z3, .int .i64 z4, .int .i64 z5, .int .i64 z6, .bool z7, .slice Az8 z8.length capz8, .string z9] R HR.out _ _ (HDb.out.below (by (repeat (first | with_reducible refine bel_drew ?_ | with_reducible refine bel_alloc ?_)); with_reducible exact hp)) HOY.out (Nat.le_trans HLY.out (by decide))).mono ?_; rintro e v2 ⟨rfl, hr2⟩; have hB2 : Below wb.heap.size wb v2 := below_step (by (repeat (first | with_reducible refine bel_drew ?_ | with_reducible refine bel_alloc ?_)); with_reducible exact hp) hr2) | (go_at_call 11; have hp := hB0; refine (ref_of Put_msg Y [.int .i64 z0, .int .i64 z1, .int .i64 z2, .int .i64 z3, .int .i64 z4, .int .i64 z5, .int .i64 z6, .bool z7, .slice Az8 z8.length capz8, .string z9] R HR.out _ _ (HDb.out.below (by (repeat (first | with_reducible refine bel_drew ?_ | with_reducible refine bel_alloc ?_)); with_reducible exact hp)) HOY.out (Nat.le_trans HLY.out (by decide))).mono ?_; rintro e v1 ⟨rfl, hr1⟩; have hB1 : Below wb.heap.size wb v1 := below_step (by (repeat (first | with_reducible refine bel_drew ?_ | with_reducible refine bel_alloc ?_)); with_reducible exact hp) hr1))
          all_goals
            go_wp2_with fail
            go_ret
            exact ⟨rfl, below_step HBb.out hB3⟩
theorem wireCuts_walk (x y : tMsg.T) (cm cn : List Value) (cut : Int) (more : ByteArray) (w : World) (hHm : Holds w (fun _ => True) tMsg x cm) (hHn : Holds w (fun _ => True) tMsg y cn) (hokm : tMsg.cod.ok x) (hokn : tMsg.cod.ok y)
    (hlm : (tMsg.cod.enc x).length ≤ 34359738368) (hln : (tMsg.cod.enc y).length ≤ 34359738368) (hmore : more.size ≤ 34359738368) :
    Calls Try.prog 4 #[.agg cm.toArray, .agg cn.toArray, .int .i64 cut, .string more] w fun e w' => e = .returned (.bool true) ∧ Below w.heap.size w w' := by
  obtain ⟨⟨y0, ⟨y1, ⟨y2, ⟨y3, ⟨y4, ⟨y5, y6⟩⟩⟩⟩⟩⟩, ⟨y7, ⟨y8, y9⟩⟩⟩ := x
  obtain ⟨⟨z0, ⟨z1, ⟨z2, ⟨z3, ⟨z4, ⟨z5, z6⟩⟩⟩⟩⟩⟩, ⟨z7, ⟨z8, z9⟩⟩⟩ := y
  exact wireCuts_walkL y0 y1 y2 y3 y4 y5 y6 y7 y8 y9 z0 z1 z2 z3 z4 z5 z6 z7 z8 z9 cm cn cut more w hHm hHn hokm hokn hlm hln hmore
end Go.Proofs.Ytlcgkcmicklihaa.Wire
