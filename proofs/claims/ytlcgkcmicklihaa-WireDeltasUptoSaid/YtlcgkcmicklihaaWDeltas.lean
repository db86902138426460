/- The walk of the law WireDeltas. -/
import Derived.Test.YtlcgkcmicklihaaAwake
import Derived.Test.YtlcgkcmicklihaaHDelta
import Derived.Test.YtlcgkcmicklihaaRCmd
namespace Go.Proofs.Ytlcgkcmicklihaa.Wire
set_option linter.unusedVariables false
set_option linter.unusedSimpArgs false
open Go.RowKit Go.Proofs.YtlcgkcmicklihaaW.PrintWords Go.Proofs.YtlcgkcmicklihaaW.PrintLast Go.Proofs.YtlcgkcmicklihaaW.PrintMore
set_option maxRecDepth 100000 in
set_option maxHeartbeats 8000000 in
theorem wireDeltas_walkL (y0 : Int) (y1 : Int) (y2 : Bool) (y3 : Int) (y4 : Int) (y5 : ByteArray) (y6 : Int) (y7 : List tEntry.T) (cs : List Value) (w : World) (hH : Holds w (fun _ => True) tDelta ((y0, y1), (y2, ((y3, y4), (y5, (y6, y7))))) cs) (hok : tDelta.cod.ok ((y0, y1), (y2, ((y3, y4), (y5, (y6, y7)))))) (hlen : (tDelta.cod.enc ((y0, y1), (y2, ((y3, y4), (y5, (y6, y7)))))).length ≤ 68719476736) :
    Calls Try.prog 5 #[.agg cs.toArray] w fun e w' => e = .returned (.bool true) ∧ Below w.heap.size w w' := by
  have HH0 := Lib.hid hH
  obtain ⟨ca1, cb1, rfl, ha1, hb1⟩ := Holds.pair_cell hH
  obtain ⟨ca2, cb2, rfl, ha2, hb2⟩ := Holds.pair_cell ha1
  obtain rfl := Holds.int_cell ha2
  obtain rfl := Holds.int_cell hb2
  obtain ⟨ca3, cb3, rfl, ha3, hb3⟩ := Holds.pair_cell hb1
  obtain rfl := Holds.bool_cell ha3
  obtain ⟨ca4, cb4, rfl, ha4, hb4⟩ := Holds.pair_cell hb3
  obtain ⟨ca5, cb5, rfl, ha5, hb5⟩ := Holds.pair_cell ha4
  obtain rfl := Holds.int_cell ha5
  obtain rfl := Holds.int_cell hb5
  obtain ⟨ca6, cb6, rfl, ha6, hb6⟩ := Holds.pair_cell hb4
  obtain rfl := Holds.str_cell ha6
  obtain ⟨ca7, cb7, rfl, ha7, hb7⟩ := Holds.pair_cell hb6
  obtain rfl := Holds.int_cell ha7
  obtain ⟨A7, cap7, rfl, hh7⟩ := Holds.list_cell hb7
  have hll : y7.length ≤ 9223372036854775807 := hok.2.2.2.2.2.1
  obtain ⟨X, hC, hokX, hlenX⟩ : ∃ X : tDelta.T, Holds w (fun _ => True) tDelta X [.int .i64 y0, .int .i64 y1, .bool y2, .int .i64 y3, .int .i64 y4, .string y5, .int .i64 y6, .slice A7 y7.length cap7] ∧ tDelta.cod.ok X ∧ (tDelta.cod.enc X).length ≤ 68719476736 := ⟨((y0, y1), (y2, ((y3, y4), (y5, (y6, y7))))), HH0.out, hok, hlen⟩
  clear HH0 hH hok hlen ha1 ha2 hb2 hb1 ha3 hb3 ha4 ha5 hb5 hb4 ha6 hb6 ha7 hb7 hh7
  have hs := get_enc tDelta.cod X hokX
  obtain ⟨S, hS⟩ : ∃ S, mkb (tDelta.cod.enc X) = S := ⟨_, rfl⟩
  have hss : S.size ≤ 68719476736 := by rw [← hS, mkb_size]; exact hlenX
  have hsd : S.data.toList = tDelta.cod.enc X := by rw [← hS, mkb_data]
  rw [← hsd] at hs
  have e0 := blk_new w (.cells #[.int .i64 y0, .int .i64 y1, .bool y2, .int .i64 y3, .int .i64 y4, .string y5, .int .i64 y6, .slice A7 y7.length cap7] 33)
  have hb0 : Below w.heap.size w (w.alloc (.cells #[.int .i64 y0, .int .i64 y1, .bool y2, .int .i64 y3, .int .i64 y4, .string y5, .int .i64 y6, .slice A7 y7.length cap7] 33)) := (Below.refl _ _).alloc (Nat.le_refl _) _
  have hN : (w.alloc (.cells #[.int .i64 y0, .int .i64 y1, .bool y2, .int .i64 y3, .int .i64 y4, .string y5, .int .i64 y6, .slice A7 y7.length cap7] 33)).heap.size = w.heap.size + 1 := by simp
  have HC := Lib.hid hC
  have HOK := Lib.hid hokX
  have HL := Lib.hid hlenX
  have HG := Lib.hid hs
  have HS := Lib.hid hS
  have HSS := Lib.hid hss
  have HE := Lib.hid e0
  have HB0 := Lib.hid hb0
  have HN := Lib.hid hN
  clear hC hokX hlenX hs hS hss hsd e0 hb0 hN
  show Calls Try.prog 5 #[.agg #[.int .i64 y0, .int .i64 y1, .bool y2, .int .i64 y3, .int .i64 y4, .string y5, .int .i64 y6, .slice A7 y7.length cap7]] w _
  go_enter Try.func5, Try.ntmps5
  go_wp2_with fail
  refine (awake_calls _).mono ?_
  rintro e w1 ⟨rfl, hb1⟩
  have hk1 := (hb1.block w.heap.size (by rw [HN.out]; omega)).trans HE.out
  have q7 : w1.cell? ⟨w.heap.size, 7, none⟩ = some (.slice A7 y7.length cap7) := (blk_cell hk1 7).trans rfl
  have q5 : w1.cell? ⟨w.heap.size, 5, none⟩ = some (.string y5) := (blk_cell hk1 5).trans rfl
  have HK1 := Lib.hid hk1
  have HB1 := Lib.hid (below_step HB0.out hb1)
  have HC1 := Lib.hid ((HC.out.below HB0.out).below hb1)
  clear hk1 hb1
  by_cases hover : (1000 : Int) < (y7.length : Int) ∨ (65536 : Int) < (y5.size : Int)
  · have key : decide ((1000 : Int) < (y7.length : Int)) = true ∨ (decide ((1000 : Int) < (y7.length : Int)) = false ∧ decide ((65536 : Int) < (y5.size : Int)) = true) := by
      by_cases h1 : (1000 : Int) < (y7.length : Int)
      · exact .inl (decide_eq_true h1)
      · exact .inr ⟨decide_eq_false h1, decide_eq_true (hover.resolve_left h1)⟩
    clear hover
    rcases key with d1 | ⟨d1, d2⟩
    all_goals
      go_wp2_with fail
      refine (awake_calls _).mono ?_
      rintro e w2 ⟨rfl, hb2⟩
      have HB2 := Lib.hid hb2
      clear hb2
      go_wp2_with fail
      go_ret
      exact ⟨rfl, below_step HB1.out HB2.out⟩
  · have d1 : decide ((1000 : Int) < (y7.length : Int)) = false := decide_eq_false (fun h => hover (.inl h))
    have d2 : decide ((65536 : Int) < (y5.size : Int)) = false := decide_eq_false (fun h => hover (.inr h))
    clear hover
    go_wp2_with ((with_reducible refine gate_load (t := 33) (p := .tmp 1) rfl ?_); refine wpList_load_whole (t := 33) rfl (.tmp 1) rfl (by rfl) Try.underlying33 (by kernel_rfl) HK1.out ?_)
    refine (Put_delta X [.int .i64 y0, .int .i64 y1, .bool y2, .int .i64 y3, .int .i64 y4, .string y5, .int .i64 y6, .slice A7 y7.length cap7] _ _ HC1.out HOK.out HL.out).mono ?_
    rintro e w2 ⟨rfl, hb2⟩
    rw [HS.out]
    have HK2 := Lib.hid ((hb2.block w.heap.size (World.block_lt_of_cell? w1 _ q7)).trans HK1.out)
    have HB2 := Lib.hid (below_step HB1.out hb2)
    have HC2 := Lib.hid (HC1.out.below hb2)
    clear hb2 q7 q5 d1 d2
    go_wp2_with fail
    refine (Get_delta S _ HSS.out).mono ?_
    rintro e w3 ⟨hb3, hr⟩
    rcases hr with ⟨x', cs', hx, rfl, hH⟩ | ⟨hx, rfl⟩
    · rw [HG.out] at hx
      injection hx with hx
      subst hx
      have hl := hH.len
      have h1 := all_one hH.one
      obtain ⟨u0, u1, u2, u3, u4, u5, u6, u7, rfl⟩ : ∃ u0 u1 u2 u3 u4 u5 u6 u7, cs' = [u0, u1, u2, u3, u4, u5, u6, u7] := by
        match cs', hl with
        | [u0, u1, u2, u3, u4, u5, u6, u7], _ => exact ⟨u0, u1, u2, u3, u4, u5, u6, u7, rfl⟩
      have H1 := Lib.hid h1
      have hb4 : Below w3.heap.size w3 (w3.alloc (.cells #[u0, u1, u2, u3, u4, u5, u6, u7] 33)) := (Below.refl _ _).alloc (Nat.le_refl _) _
      have HK4 := Lib.hid ((hb4.block w.heap.size (by have := hb3.size; have := blk_lt HK2.out; omega)).trans ((hb3.block w.heap.size (blk_lt HK2.out)).trans HK2.out))
      have HU4 := Lib.hid (blk_new w3 (.cells #[u0, u1, u2, u3, u4, u5, u6, u7] 33))
      have HH4 := Lib.hid (hH.below hb4)
      have HC4 := Lib.hid ((HC2.out.below hb3).below hb4)
      have HB4 := Lib.hid (below_step (below_step HB2.out hb3) hb4)
      have HN4 := Lib.hid (show (w3.alloc (.cells #[u0, u1, u2, u3, u4, u5, u6, u7] 33)).heap.size = w3.heap.size + 1 by simp)
      clear hb3 hb4 hH hl h1
      go_wp2_with (first | ((with_reducible refine gate_store (t := 33) (p := .tmp 4) (x := .tmp 26) rfl ?_); refine wpList_store_new (t := 33) rfl (.tmp 4) (.tmp 26) rfl #[u0, u1, u2, u3, u4, u5, u6, u7] (by rfl) (by rfl) (by kernel_rfl) rfl H1.out ?_) | ((with_reducible refine gate_load (t := 33) (p := .tmp 1) rfl ?_); refine wpList_load_whole (t := 33) rfl (.tmp 1) rfl (by rfl) Try.underlying33 (by kernel_rfl) HK4.out ?_))
      refine (delta_ref X [.int .i64 y0, .int .i64 y1, .bool y2, .int .i64 y3, .int .i64 y4, .string y5, .int .i64 y6, .slice A7 y7.length cap7] _ _ HC4.out HOK.out HL.out).mono ?_
      rintro e w5 ⟨rfl, hb5⟩
      rw [HS.out]
      have hk5 := (hb5.block w3.heap.size (by rw [HN4.out]; omega)).trans HU4.out
      have x0 : w5.cell? ⟨w3.heap.size, 0, none⟩ = some u0 := (blk_cell hk5 0).trans rfl
      have x1 : w5.cell? ⟨w3.heap.size, 1, none⟩ = some u1 := (blk_cell hk5 1).trans rfl
      have x2 : w5.cell? ⟨w3.heap.size, 2, none⟩ = some u2 := (blk_cell hk5 2).trans rfl
      have x3 : w5.cell? ⟨w3.heap.size, 3, none⟩ = some u3 := (blk_cell hk5 3).trans rfl
      have x4 : w5.cell? ⟨w3.heap.size, 4, none⟩ = some u4 := (blk_cell hk5 4).trans rfl
      have x5 : w5.cell? ⟨w3.heap.size, 5, none⟩ = some u5 := (blk_cell hk5 5).trans rfl
      have x6 : w5.cell? ⟨w3.heap.size, 6, none⟩ = some u6 := (blk_cell hk5 6).trans rfl
      have x7 : w5.cell? ⟨w3.heap.size, 7, none⟩ = some u7 := (blk_cell hk5 7).trans rfl
      have HH5 := Lib.hid (HH4.out.below hb5)
      have HB5 := Lib.hid (below_step HB4.out hb5)
      clear hb5 hk5
      go_wp2_with fail
      refine (delta_ref X [u0, u1, u2, u3, u4, u5, u6, u7] _ _ HH5.out HOK.out HL.out).mono ?_
      rintro e w6 ⟨rfl, hb6⟩
      rw [HS.out]
      have HB6 := Lib.hid (below_step HB5.out hb6)
      clear hb6
      go_wp2_with fail
      go_ret
      exact ⟨rfl, HB6.out⟩
    · rw [HG.out] at hx
      cases hx
theorem wireDeltas_walk (x : tDelta.T) (cs : List Value) (w : World) (hH : Holds w (fun _ => True) tDelta x cs) (hok : tDelta.cod.ok x) (hlen : (tDelta.cod.enc x).length ≤ 68719476736) :
    Calls Try.prog 5 #[.agg cs.toArray] w fun e w' => e = .returned (.bool true) ∧ Below w.heap.size w w' := by
  obtain ⟨⟨y0, y1⟩, ⟨y2, ⟨⟨y3, y4⟩, ⟨y5, ⟨y6, y7⟩⟩⟩⟩⟩ := x
  exact wireDeltas_walkL y0 y1 y2 y3 y4 y5 y6 y7 cs w hH hok hlen
end Go.Proofs.Ytlcgkcmicklihaa.Wire
