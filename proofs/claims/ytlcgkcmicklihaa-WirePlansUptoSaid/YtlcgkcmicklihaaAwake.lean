/- awake, and the laws over messages. -/
import Derived.Test.YtlcgkcmicklihaaRLib
import Derived.Test.YtlcgkcmicklihaaHMsg
namespace Go.Proofs.Ytlcgkcmicklihaa.Wire
set_option linter.unusedVariables false
set_option linter.unusedSimpArgs false
open Go.RowKit Go.Proofs.YtlcgkcmicklihaaW.PrintWords Go.Proofs.YtlcgkcmicklihaaW.PrintLast Go.Proofs.YtlcgkcmicklihaaW.PrintMore
set_option maxRecDepth 100000 in
set_option maxHeartbeats 8000000 in
theorem msg_refL (y0 : Int) (y1 : Int) (y2 : Int) (y3 : Int) (y4 : Int) (y5 : Int) (y6 : Int) (y7 : Bool) (y8 : List tEntry.T) (y9 : ByteArray) (cs : List Value) (ok : Nat → Prop) (w : World) (hH : Holds w ok tMsg ((y0, (y1, (y2, (y3, (y4, (y5, y6)))))), (y7, (y8, y9))) cs) (hok : tMsg.cod.ok ((y0, (y1, (y2, (y3, (y4, (y5, y6)))))), (y7, (y8, y9)))) (hlen : (tMsg.cod.enc ((y0, (y1, (y2, (y3, (y4, (y5, y6)))))), (y7, (y8, y9)))).length ≤ 68719476736) :
    Calls Try.prog 13 #[.agg cs.toArray] w fun e w' => e = .returned (.string (mkb (tMsg.cod.enc ((y0, (y1, (y2, (y3, (y4, (y5, y6)))))), (y7, (y8, y9)))))) ∧ Below w.heap.size w w' := by
  obtain ⟨ca1, cb1, rfl, ha1, hb1⟩ := Holds.pair_cell hH
  obtain ⟨ca2, cb2, rfl, ha2, hb2⟩ := Holds.pair_cell ha1
  obtain rfl := Holds.int_cell ha2
  obtain ⟨ca3, cb3, rfl, ha3, hb3⟩ := Holds.pair_cell hb2
  obtain rfl := Holds.int_cell ha3
  obtain ⟨ca4, cb4, rfl, ha4, hb4⟩ := Holds.pair_cell hb3
  obtain rfl := Holds.int_cell ha4
  obtain ⟨ca5, cb5, rfl, ha5, hb5⟩ := Holds.pair_cell hb4
  obtain rfl := Holds.int_cell ha5
  obtain ⟨ca6, cb6, rfl, ha6, hb6⟩ := Holds.pair_cell hb5
  obtain rfl := Holds.int_cell ha6
  obtain ⟨ca7, cb7, rfl, ha7, hb7⟩ := Holds.pair_cell hb6
  obtain rfl := Holds.int_cell ha7
  obtain rfl := Holds.int_cell hb7
  obtain ⟨ca8, cb8, rfl, ha8, hb8⟩ := Holds.pair_cell hb1
  obtain rfl := Holds.bool_cell ha8
  obtain ⟨ca9, cb9, rfl, ha9, hb9⟩ := Holds.pair_cell hb8
  obtain ⟨A8, cap8, rfl, hh8⟩ := Holds.list_cell ha9
  obtain rfl := Holds.str_cell hb9
  clear ha1 ha2 hb2 ha3 hb3 ha4 hb4 ha5 hb5 ha6 hb6 ha7 hb7 hb1 ha8 hb8 ha9 hb9
  obtain ⟨R0, hR0⟩ : ∃ R, [y0, y1, y2, y3, y4, y5, y6].flatMap num = R := ⟨_, rfl⟩
  obtain ⟨R1, hR1⟩ : ∃ R, cFlag.enc y7 = R := ⟨_, rfl⟩
  obtain ⟨R2, hR2⟩ : ∃ R, (Ty.list tEntry).cod.enc y8 = R := ⟨_, rfl⟩
  obtain ⟨R3, hR3⟩ : ∃ R, cStr.enc y9 = R := ⟨_, rfl⟩
  obtain ⟨P1, hP1⟩ : ∃ P, R0 ++ R1 = P := ⟨_, rfl⟩
  obtain ⟨P2, hP2⟩ : ∃ P, P1 ++ R2 = P := ⟨_, rfl⟩
  obtain ⟨P3, hP3⟩ : ∃ P, P2 ++ R3 = P := ⟨_, rfl⟩
  have hE : tMsg.cod.enc ((y0, (y1, (y2, (y3, (y4, (y5, y6)))))), (y7, (y8, y9))) = P3 := by
    have h1 : tMsg.cod.enc ((y0, (y1, (y2, (y3, (y4, (y5, y6)))))), (y7, (y8, y9))) = ((num y0 ++ (num y1 ++ (num y2 ++ (num y3 ++ (num y4 ++ (num y5 ++ num y6)))))) ++ (cFlag.enc y7 ++ ((Ty.list tEntry).cod.enc y8 ++ cStr.enc y9))) := rfl
    rw [h1, ← hP3, ← hP2, ← hP1, ← hR0, ← hR1, ← hR2, ← hR3]
    simp only [List.append_assoc, List.flatMap_cons, List.flatMap_nil, List.append_nil]
  rw [hE] at hlen
  rw [hE]
  have hl3 : P2.length + R3.length ≤ 68719476736 := by rw [← List.length_append, hP3]; exact hlen
  have hl2 : P1.length + R2.length ≤ 68719476736 := by rw [← List.length_append, hP2]; omega
  have hl1 : R0.length + R1.length ≤ 68719476736 := by rw [← List.length_append, hP1]; omega
  have HF0 := Lib.hid (show ∀ n ∈ [y0, y1, y2, y3, y4, y5, y6], Fits n from fits_cons hok.1.1 (fits_cons hok.1.2.1 (fits_cons hok.1.2.2.1 (fits_cons hok.1.2.2.2.1 (fits_cons hok.1.2.2.2.2.1 (fits_cons hok.1.2.2.2.2.2.1 (fits_cons hok.1.2.2.2.2.2.2 (fits_nil))))))))
  have HO2 := Lib.hid hok.2.2.1
  have HLn2 := Lib.hid (show ((Ty.list tEntry).cod.enc y8).length ≤ 68719476736 by rw [hR2]; omega)
  have hll2 : y8.length ≤ 9223372036854775807 := hok.2.2.1.1
  have hs3 : y9.size ≤ 281474976710656 := str_size hR3 (by omega)
  have sa1 : ¬ 9223372036854775807 < (mkb R0).size + (mkb R1).size := by simp only [mkb_size]; omega
  have sc1 : mkb R0 ++ mkb R1 = mkb P1 := by rw [mkb_append, hP1]
  have sa2 : ¬ 9223372036854775807 < (mkb P1).size + (mkb R2).size := by simp only [mkb_size]; omega
  have sc2 : mkb P1 ++ mkb R2 = mkb P2 := by rw [mkb_append, hP2]
  have sa3 : ¬ 9223372036854775807 < (mkb P2).size + (mkb R3).size := by simp only [mkb_size]; omega
  have sc3 : mkb P2 ++ mkb R3 = mkb P3 := by rw [mkb_append, hP3]
  obtain ⟨wb, hwb⟩ : ∃ wb, w.alloc (.cells #[.int .i64 y0, .int .i64 y1, .int .i64 y2, .int .i64 y3, .int .i64 y4, .int .i64 y5, .int .i64 y6, .bool y7, .slice A8 y8.length cap8, .string y9] 24) = wb := ⟨_, rfl⟩
  have hbb : Below w.heap.size w wb := by rw [← hwb]; exact (Below.refl _ _).alloc (Nat.le_refl _) _
  have q0 : wb.cell? ⟨w.heap.size, 0, none⟩ = some (.int .i64 y0) := by rw [← hwb]; exact (blk_cell (blk_new w _) 0).trans rfl
  have q1 : wb.cell? ⟨w.heap.size, 1, none⟩ = some (.int .i64 y1) := by rw [← hwb]; exact (blk_cell (blk_new w _) 1).trans rfl
  have q2 : wb.cell? ⟨w.heap.size, 2, none⟩ = some (.int .i64 y2) := by rw [← hwb]; exact (blk_cell (blk_new w _) 2).trans rfl
  have q3 : wb.cell? ⟨w.heap.size, 3, none⟩ = some (.int .i64 y3) := by rw [← hwb]; exact (blk_cell (blk_new w _) 3).trans rfl
  have q4 : wb.cell? ⟨w.heap.size, 4, none⟩ = some (.int .i64 y4) := by rw [← hwb]; exact (blk_cell (blk_new w _) 4).trans rfl
  have q5 : wb.cell? ⟨w.heap.size, 5, none⟩ = some (.int .i64 y5) := by rw [← hwb]; exact (blk_cell (blk_new w _) 5).trans rfl
  have q6 : wb.cell? ⟨w.heap.size, 6, none⟩ = some (.int .i64 y6) := by rw [← hwb]; exact (blk_cell (blk_new w _) 6).trans rfl
  have q7 : wb.cell? ⟨w.heap.size, 7, none⟩ = some (.bool y7) := by rw [← hwb]; exact (blk_cell (blk_new w _) 7).trans rfl
  have q8 : wb.cell? ⟨w.heap.size, 8, none⟩ = some (.slice A8 y8.length cap8) := by rw [← hwb]; exact (blk_cell (blk_new w _) 8).trans rfl
  have q9 : wb.cell? ⟨w.heap.size, 9, none⟩ = some (.string y9) := by rw [← hwb]; exact (blk_cell (blk_new w _) 9).trans rfl
  have hNb : w.heap.size < wb.heap.size := by rw [← hwb]; simp
  have HH2 := Lib.hid (hh8.below hbb)
  have HBB := Lib.hid hbb
  have HR0 := Lib.hid hR0
  have HR1 := Lib.hid hR1
  have HR2 := Lib.hid hR2
  have HR3 := Lib.hid hR3
  clear hE hlen hok hbb hR0 hR1 hR2 hR3 hP1 hP2 hP3 hh8
  show Calls Try.prog 13 #[.agg #[.int .i64 y0, .int .i64 y1, .int .i64 y2, .int .i64 y3, .int .i64 y4, .int .i64 y5, .int .i64 y6, .bool y7, .slice A8 y8.length cap8, .string y9]] w _
  go_enter Try.func13, Try.ntmps13
  go_wp2_with fail
  clear hwb
  have hB0 : Below wb.heap.size wb wb := Below.refl _ _
  have KK : Hid (∀ w', Below wb.heap.size wb w' → (Below wb.heap.size wb w' ∧ w'.cell? ⟨w.heap.size, 0, none⟩ = some (.int .i64 y0) ∧ w'.cell? ⟨w.heap.size, 1, none⟩ = some (.int .i64 y1) ∧ w'.cell? ⟨w.heap.size, 2, none⟩ = some (.int .i64 y2) ∧ w'.cell? ⟨w.heap.size, 3, none⟩ = some (.int .i64 y3) ∧ w'.cell? ⟨w.heap.size, 4, none⟩ = some (.int .i64 y4) ∧ w'.cell? ⟨w.heap.size, 5, none⟩ = some (.int .i64 y5) ∧ w'.cell? ⟨w.heap.size, 6, none⟩ = some (.int .i64 y6) ∧ w'.cell? ⟨w.heap.size, 7, none⟩ = some (.bool y7) ∧ w'.cell? ⟨w.heap.size, 8, none⟩ = some (.slice A8 y8.length cap8) ∧ w'.cell? ⟨w.heap.size, 9, none⟩ = some (.string y9))) := Lib.hid (fun w' hX => ⟨hX, keep1 q0 hX, keep1 q1 hX, keep1 q2 hX, keep1 q3 hX, keep1 q4 hX, keep1 q5 hX, keep1 q6 hX, keep1 q7 hX, keep1 q8 hX, keep1 q9 hX⟩)
  go_region_held3 (fun w' => Below wb.heap.size wb w' ∧ w'.cell? ⟨w.heap.size, 0, none⟩ = some (.int .i64 y0) ∧ w'.cell? ⟨w.heap.size, 1, none⟩ = some (.int .i64 y1) ∧ w'.cell? ⟨w.heap.size, 2, none⟩ = some (.int .i64 y2) ∧ w'.cell? ⟨w.heap.size, 3, none⟩ = some (.int .i64 y3) ∧ w'.cell? ⟨w.heap.size, 4, none⟩ = some (.int .i64 y4) ∧ w'.cell? ⟨w.heap.size, 5, none⟩ = some (.int .i64 y5) ∧ w'.cell? ⟨w.heap.size, 6, none⟩ = some (.int .i64 y6) ∧ w'.cell? ⟨w.heap.size, 7, none⟩ = some (.bool y7) ∧ w'.cell? ⟨w.heap.size, 8, none⟩ = some (.slice A8 y8.length cap8) ∧ w'.cell? ⟨w.heap.size, 9, none⟩ = some (.string y9))
    (first | ((with_reducible refine KK.out _ ?_); (repeat (first | with_reducible refine bel_drew ?_ | with_reducible refine bel_alloc ?_)); first | with_reducible exact hB4 | with_reducible exact hB3 | with_reducible exact hB2 | with_reducible exact hB1 | with_reducible exact hB0))
    (first | (go_at_call 32; have hp := hB3; refine (text_ref' y9 R3 HR3.out _ hs3).mono ?_; rintro e w4 ⟨rfl, hr4⟩; have hB4 : Below wb.heap.size wb w4 := below_step (by (repeat (first | with_reducible refine bel_drew ?_ | with_reducible refine bel_alloc ?_)); with_reducible exact hp) hr4) | (go_at_call 31; have hp := hB2; refine (list_ref' entries_all y8 _ _ _ R2 HR2.out _ (HH2.out.below (by (repeat (first | with_reducible refine bel_drew ?_ | with_reducible refine bel_alloc ?_)); with_reducible exact hp)) HO2.out HLn2.out).mono ?_; rintro e w3 ⟨rfl, hr3⟩; have hB3 : Below wb.heap.size wb w3 := below_step (by (repeat (first | with_reducible refine bel_drew ?_ | with_reducible refine bel_alloc ?_)); with_reducible exact hp) hr3) | (go_at_call 30; have hp := hB1; refine (flag_ref' y7 R1 HR1.out _).mono ?_; rintro e w2 ⟨rfl, hr2⟩; have hB2 : Below wb.heap.size wb w2 := below_step (by (repeat (first | with_reducible refine bel_drew ?_ | with_reducible refine bel_alloc ?_)); with_reducible exact hp) hr2) | (go_at_call 29; have hp := hB0; refine (nums_at [y0, y1, y2, y3, y4, y5, y6] R0 HR0.out 7 rfl _ 7 _ (by decide) HF0.out (by repeat (first | ((with_reducible refine rowB ?_ ?_); rfl; (first | (with_reducible rfl) | (simp; done)); done) | with_reducible refine row_drew ?_ | with_reducible refine row_alloc ?_ | with_reducible refine row_below hr4 ?_ | with_reducible refine row_below hr3 ?_ | with_reducible refine row_below hr2 ?_ | with_reducible refine row_below hr1 ?_))).mono ?_; rintro e w1 ⟨rfl, hr1⟩; have hB1 : Below wb.heap.size wb w1 := below_step (by (repeat (first | with_reducible refine bel_drew ?_ | with_reducible refine bel_alloc ?_)); with_reducible exact hp) hr1))
  all_goals
    go_wp2_with fail
    go_ret
    exact ⟨rfl, below_then' HBB.out hB4⟩
theorem msg_ref (x : tMsg.T) (cs : List Value) (ok : Nat → Prop) (w : World) (hH : Holds w ok tMsg x cs) (hok : tMsg.cod.ok x) (hlen : (tMsg.cod.enc x).length ≤ 68719476736) :
    Calls Try.prog 13 #[.agg cs.toArray] w fun e w' => e = .returned (.string (mkb (tMsg.cod.enc x))) ∧ Below w.heap.size w w' := by
  obtain ⟨⟨y0, ⟨y1, ⟨y2, ⟨y3, ⟨y4, ⟨y5, y6⟩⟩⟩⟩⟩⟩, ⟨y7, ⟨y8, y9⟩⟩⟩ := x
  exact msg_refL y0 y1 y2 y3 y4 y5 y6 y7 y8 y9 cs ok w hH hok hlen
end Go.Proofs.Ytlcgkcmicklihaa.Wire
namespace Go.Proofs.Ytlcgkcmicklihaa.Wire
set_option linter.unusedVariables false
set_option linter.unusedSimpArgs false
open Go.RowKit Go.Proofs.YtlcgkcmicklihaaW.PrintWords Go.Proofs.YtlcgkcmicklihaaW.PrintLast Go.Proofs.YtlcgkcmicklihaaW.PrintMore
theorem leb_small (z : Nat) (h : z < 128) : leb z = [UInt8.ofNat z] := by
  rw [leb.eq_def, dif_pos h]
def awakeMsg : tMsg.T := (((2 : Int), (1 : Int), (0 : Int), (3 : Int), (0 : Int), (0 : Int), (0 : Int)), true, ([] : List tEntry.T), (⟨#[]⟩ : ByteArray))
theorem awake_enc : tMsg.cod.enc awakeMsg = [4, 2, 0, 6, 0, 0, 0, 2, 0, 0] := by
  have h : tMsg.cod.enc awakeMsg = ((num 2 ++ (num 1 ++ (num 0 ++ (num 3 ++ (num 0 ++ (num 0 ++ num 0)))))) ++ (num 1 ++ ((num 0 ++ []) ++ (num 0 ++ [])))) := rfl
  rw [h]
  have e0 : num 0 = [0] := by unfold num; rw [show zz 0 = 0 by decide, leb_small 0 (by decide)]; rfl
  have e1 : num 1 = [2] := by unfold num; rw [show zz 1 = 2 by decide, leb_small 2 (by decide)]; rfl
  have e2 : num 2 = [4] := by unfold num; rw [show zz 2 = 4 by decide, leb_small 4 (by decide)]; rfl
  have e3 : num 3 = [6] := by unfold num; rw [show zz 3 = 6 by decide, leb_small 6 (by decide)]; rfl
  rw [e0, e1, e2, e3]
  rfl
theorem awake_ok : tMsg.cod.ok awakeMsg := by
  have f : ∀ n : Int, -9223372036854775808 ≤ n → n ≤ 9223372036854775807 → Fits n := fun n a b => ⟨a, b⟩
  exact ⟨⟨f 2 (by decide) (by decide), f 1 (by decide) (by decide), f 0 (by decide) (by decide), f 3 (by decide) (by decide), f 0 (by decide) (by decide), f 0 (by decide) (by decide), f 0 (by decide) (by decide)⟩, trivial, ⟨Nat.zero_le _, fun x h => by cases h⟩, Nat.zero_le _⟩
/-- The cells of awake's message. -/
def awakeCells : List Value := [.int .i64 2, .int .i64 1, .int .i64 0, .int .i64 3, .int .i64 0, .int .i64 0, .int .i64 0, .bool true, .slice none 0 0, .string ⟨#[]⟩]
theorem awake_holds (w : World) (ok : Nat → Prop) : Holds w ok tMsg awakeMsg awakeCells :=
  ⟨[.int .i64 2, .int .i64 1, .int .i64 0, .int .i64 3, .int .i64 0, .int .i64 0, .int .i64 0], [.bool true, .slice none 0 0, .string ⟨#[]⟩], rfl,
    ⟨_, [.int .i64 1, .int .i64 0, .int .i64 3, .int .i64 0, .int .i64 0, .int .i64 0], rfl, rfl, _, [.int .i64 0, .int .i64 3, .int .i64 0, .int .i64 0, .int .i64 0], rfl, rfl, _, [.int .i64 3, .int .i64 0, .int .i64 0, .int .i64 0], rfl, rfl, _, [.int .i64 0, .int .i64 0, .int .i64 0], rfl, rfl, _, [.int .i64 0, .int .i64 0], rfl, rfl, _, [.int .i64 0], rfl, rfl, rfl⟩,
    ⟨_, [.slice none 0 0, .string ⟨#[]⟩], rfl, rfl, [.slice none 0 0], [.string ⟨#[]⟩], rfl, ⟨none, 0, rfl, Nat.le_refl _, fun i x h => by cases h⟩, rfl⟩⟩
theorem awake_cells {w : World} {ok : Nat → Prop} {cs : List Value} (h : Holds w ok tMsg awakeMsg cs) : ∃ A cap, cs = [.int .i64 2, .int .i64 1, .int .i64 0, .int .i64 3, .int .i64 0, .int .i64 0, .int .i64 0, .bool true, .slice A 0 cap, .string ⟨#[]⟩] := by
  obtain ⟨c1, c2, rfl, h1, h2⟩ := h
  obtain ⟨d1, d2, rfl, g1, g2⟩ := h1
  obtain ⟨d3, d4, rfl, g3, g4⟩ := g2
  obtain ⟨d5, d6, rfl, g5, g6⟩ := g4
  obtain ⟨d7, d8, rfl, g7, g8⟩ := g6
  obtain ⟨d9, d10, rfl, g9, g10⟩ := g8
  obtain ⟨d11, d12, rfl, g11, g12⟩ := g10
  obtain ⟨e1, e2, rfl, k1, k2⟩ := h2
  obtain ⟨e3, e4, rfl, k3, k4⟩ := k2
  obtain ⟨A, cap, rfl, _⟩ := Holds.list_cell k3
  rw [Holds.int_cell g1, Holds.int_cell g3, Holds.int_cell g5, Holds.int_cell g7, Holds.int_cell g9, Holds.int_cell g11, Holds.int_cell g12, Holds.bool_cell k1, Holds.str_cell k4]
  exact ⟨A, cap, rfl⟩
theorem awake_more : get tMsg.cod ((⟨#[4, 2, 0, 6, 0, 0, 0, 2, 0, 0]⟩ : ByteArray) ++ (⟨#[0]⟩ : ByteArray)).data.toList = none := by
  have h := get_more tMsg.cod awakeMsg awake_ok [0]
  rw [awake_enc] at h
  have e : ((⟨#[4, 2, 0, 6, 0, 0, 0, 2, 0, 0]⟩ : ByteArray) ++ (⟨#[0]⟩ : ByteArray)).data.toList = [4, 2, 0, 6, 0, 0, 0, 2, 0, 0] ++ [0] := by
    rw [ByteArray.data_append]
    rfl
  rw [e]
  cases hg : get tMsg.cod ([4, 2, 0, 6, 0, 0, 0, 2, 0, 0] ++ [0]) with
  | none => rfl
  | some x => rw [hg] at h; simp at h
set_option maxRecDepth 100000 in
set_option maxHeartbeats 4000000 in
theorem awake_calls (w : World) : Calls Try.prog 10 #[] w fun e w' => e = .returned (.bool true) ∧ Below w.heap.size w w' := by
  have hs : mkb (tMsg.cod.enc awakeMsg) = (⟨#[4, 2, 0, 6, 0, 0, 0, 2, 0, 0]⟩ : ByteArray) := by rw [awake_enc]; rfl
  have HS := Lib.hid hs
  clear hs
  go_enter Try.func10, Try.ntmps10
  go_wp2_with fail
  refine (Put_msg awakeMsg awakeCells (fun _ => False) _ (awake_holds _ _) awake_ok (by rw [awake_enc]; decide)).mono ?_
  rintro e w1 ⟨rfl, hb1⟩
  rw [HS.out]
  have HB1 := Lib.hid hb1
  clear hb1
  go_wp2_with fail
  refine (Get_msg _ _ (by decide)).mono ?_
  rintro e w2 ⟨hb2, hr⟩
  have HB2 := Lib.hid (below_step HB1.out hb2)
  clear hb2
  have hg : get tMsg.cod (⟨#[4, 2, 0, 6, 0, 0, 0, 2, 0, 0]⟩ : ByteArray).data.toList = some awakeMsg := by
    have := get_enc tMsg.cod awakeMsg awake_ok
    rw [awake_enc] at this
    exact this
  rcases hr with ⟨x, cs, hx, rfl, hH⟩ | ⟨hx, rfl⟩
  · rw [hg] at hx
    injection hx with hx
    subst hx
    obtain ⟨A, cap, rfl⟩ := awake_cells hH
    clear hH hg
    go_wp2_with fail
    all_goals
      refine (Get_msg _ _ (by decide)).mono ?_
      rintro e w3 ⟨hb3, hr⟩
      have HB3 := Lib.hid (below_step (HB2.out.alloc HB2.out.size _) hb3)
      have hlt : w2.heap.size < w3.heap.size := by have := hb3.size; simp at this; omega
      have hk3 := (hb3.block w2.heap.size (by simp)).trans (blk_new w2 _)
      have r3 : w3.cell? ⟨w2.heap.size, 3, none⟩ = some (.int .i64 3) := (blk_cell hk3 3).trans rfl
      have r7 : w3.cell? ⟨w2.heap.size, 7, none⟩ = some (.bool true) := (blk_cell hk3 7).trans rfl
      clear hb3 hk3
      rcases hr with ⟨x, cs, hx, rfl, hH⟩ | ⟨hx, rfl⟩
      · rw [awake_more] at hx
        cases hx
      · have hz : tMsg.zcells.toArray = #[.int .i64 0, .int .i64 0, .int .i64 0, .int .i64 0, .int .i64 0, .int .i64 0, .int .i64 0, .bool false, .slice none 0 0, .string ⟨#[]⟩] := rfl
        rw [hz]
        clear hz hx
        go_wp2_with fail
        go_ret
        exact ⟨rfl, HB3.out.alloc HB3.out.size _⟩
  · rw [hg] at hx
    cases hx
end Go.Proofs.Ytlcgkcmicklihaa.Wire
