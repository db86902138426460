/- The reference over a value, a name; over lists of writes. -/
import Derived.Test.YtlcgkcmicklihaaRLib
import Derived.Test.YtlcgkcmicklihaaMBase
namespace Go.Proofs.Ytlcgkcmicklihaa.Wire
set_option linter.unusedVariables false
set_option linter.unusedSimpArgs false
open Go.RowKit Go.Proofs.YtlcgkcmicklihaaW.PrintWords Go.Proofs.YtlcgkcmicklihaaW.PrintLast Go.Proofs.YtlcgkcmicklihaaW.PrintMore
theorem sub_ref' {f : Nat} {t : Ty} (h : ∀ (x : t.T) (cs : List Value) (ok : Nat → Prop) (w : World), Holds w ok t x cs → t.cod.ok x → (t.cod.enc x).length ≤ 68719476736 →
      Calls Try.prog f #[.agg cs.toArray] w fun e w' => e = .returned (.string (mkb (t.cod.enc x))) ∧ Below w.heap.size w w')
    (x : t.T) (cs : List Value) (ok : Nat → Prop) (R : List UInt8) (hR : t.cod.enc x = R) (w : World) (hH : Holds w ok t x cs) (hok : t.cod.ok x) (hl : (t.cod.enc x).length ≤ 68719476736) :
    Calls Try.prog f #[.agg cs.toArray] w fun e w' => e = .returned (.string (mkb R)) ∧ Below w.heap.size w w' := by
  subst hR
  exact h x cs ok w hH hok hl
set_option maxRecDepth 100000 in
set_option maxHeartbeats 8000000 in
theorem value_refL (y0 : Int) (y1 : Int) (y2 : ByteArray) (cs : List Value) (ok : Nat → Prop) (w : World) (hH : Holds w ok tValue (y0, (y1, y2)) cs) (hok : tValue.cod.ok (y0, (y1, y2))) (hlen : (tValue.cod.enc (y0, (y1, y2))).length ≤ 68719476736) :
    Calls Try.prog 72 #[.agg cs.toArray] w fun e w' => e = .returned (.string (mkb (tValue.cod.enc (y0, (y1, y2))))) ∧ Below w.heap.size w w' := by
  obtain ⟨ca1, cb1, rfl, ha1, hb1⟩ := Holds.pair_cell hH
  obtain rfl := Holds.int_cell ha1
  obtain ⟨ca2, cb2, rfl, ha2, hb2⟩ := Holds.pair_cell hb1
  obtain rfl := Holds.int_cell ha2
  obtain rfl := Holds.str_cell hb2
  clear ha1 hb1 ha2 hb2
  obtain ⟨R0, hR0⟩ : ∃ R, num y0 = R := ⟨_, rfl⟩
  obtain ⟨R1, hR1⟩ : ∃ R, num y1 = R := ⟨_, rfl⟩
  obtain ⟨R2, hR2⟩ : ∃ R, cStr.enc y2 = R := ⟨_, rfl⟩
  obtain ⟨P1, hP1⟩ : ∃ P, R0 ++ R1 = P := ⟨_, rfl⟩
  obtain ⟨P2, hP2⟩ : ∃ P, P1 ++ R2 = P := ⟨_, rfl⟩
  have hE : tValue.cod.enc (y0, (y1, y2)) = P2 := by
    have h1 : tValue.cod.enc (y0, (y1, y2)) = (num y0 ++ (num y1 ++ cStr.enc y2)) := rfl
    rw [h1, ← hP2, ← hP1, ← hR0, ← hR1, ← hR2]
    simp only [List.append_assoc, List.flatMap_cons, List.flatMap_nil, List.append_nil]
  rw [hE] at hlen
  rw [hE]
  have hl2 : P1.length + R2.length ≤ 68719476736 := by rw [← List.length_append, hP2]; exact hlen
  have hl1 : R0.length + R1.length ≤ 68719476736 := by rw [← List.length_append, hP1]; omega
  have HF0 := Lib.hid (show Fits y0 from hok.1)
  have HF1 := Lib.hid (show Fits y1 from hok.2.1)
  have hs2 : y2.size ≤ 281474976710656 := str_size hR2 (by omega)
  have sa1 : ¬ 9223372036854775807 < (mkb R0).size + (mkb R1).size := by simp only [mkb_size]; omega
  have sc1 : mkb R0 ++ mkb R1 = mkb P1 := by rw [mkb_append, hP1]
  have sa2 : ¬ 9223372036854775807 < (mkb P1).size + (mkb R2).size := by simp only [mkb_size]; omega
  have sc2 : mkb P1 ++ mkb R2 = mkb P2 := by rw [mkb_append, hP2]
  obtain ⟨wb, hwb⟩ : ∃ wb, w.alloc (.cells #[.int .i64 y0, .int .i64 y1, .string y2] 59) = wb := ⟨_, rfl⟩
  have hbb : Below w.heap.size w wb := by rw [← hwb]; exact (Below.refl _ _).alloc (Nat.le_refl _) _
  have q0 : wb.cell? ⟨w.heap.size, 0, none⟩ = some (.int .i64 y0) := by rw [← hwb]; exact (blk_cell (blk_new w _) 0).trans rfl
  have q1 : wb.cell? ⟨w.heap.size, 1, none⟩ = some (.int .i64 y1) := by rw [← hwb]; exact (blk_cell (blk_new w _) 1).trans rfl
  have q2 : wb.cell? ⟨w.heap.size, 2, none⟩ = some (.string y2) := by rw [← hwb]; exact (blk_cell (blk_new w _) 2).trans rfl
  have hNb : w.heap.size < wb.heap.size := by rw [← hwb]; simp
  have HBB := Lib.hid hbb
  have HR0 := Lib.hid hR0
  have HR1 := Lib.hid hR1
  have HR2 := Lib.hid hR2
  clear hE hlen hok hbb hR0 hR1 hR2 hP1 hP2 
  show Calls Try.prog 72 #[.agg #[.int .i64 y0, .int .i64 y1, .string y2]] w _
  go_enter Try.func72, Try.ntmps72
  go_wp2_with fail
  clear hwb
  have hB0 : Below wb.heap.size wb wb := Below.refl _ _
  have KK : Hid (∀ w', Below wb.heap.size wb w' → (Below wb.heap.size wb w' ∧ w'.cell? ⟨w.heap.size, 0, none⟩ = some (.int .i64 y0) ∧ w'.cell? ⟨w.heap.size, 1, none⟩ = some (.int .i64 y1) ∧ w'.cell? ⟨w.heap.size, 2, none⟩ = some (.string y2))) := Lib.hid (fun w' hX => ⟨hX, keep1 q0 hX, keep1 q1 hX, keep1 q2 hX⟩)
  go_region_held3 (fun w' => Below wb.heap.size wb w' ∧ w'.cell? ⟨w.heap.size, 0, none⟩ = some (.int .i64 y0) ∧ w'.cell? ⟨w.heap.size, 1, none⟩ = some (.int .i64 y1) ∧ w'.cell? ⟨w.heap.size, 2, none⟩ = some (.string y2))
    (first | ((with_reducible refine KK.out _ ?_); (repeat (first | with_reducible refine bel_drew ?_ | with_reducible refine bel_alloc ?_)); first | with_reducible exact hB3 | with_reducible exact hB2 | with_reducible exact hB1 | with_reducible exact hB0))
    (first | (go_at_call 32; have hp := hB2; refine (text_ref' y2 R2 HR2.out _ hs2).mono ?_; rintro e w3 ⟨rfl, hr3⟩; have hB3 : Below wb.heap.size wb w3 := below_step (by (repeat (first | with_reducible refine bel_drew ?_ | with_reducible refine bel_alloc ?_)); with_reducible exact hp) hr3) | (go_at_call 41; have hp := hB1; refine (num_ref' y1 R1 HR1.out _ HF1.out).mono ?_; rintro e w2 ⟨rfl, hr2⟩; have hB2 : Below wb.heap.size wb w2 := below_step (by (repeat (first | with_reducible refine bel_drew ?_ | with_reducible refine bel_alloc ?_)); with_reducible exact hp) hr2) | (go_at_call 41; have hp := hB0; refine (num_ref' y0 R0 HR0.out _ HF0.out).mono ?_; rintro e w1 ⟨rfl, hr1⟩; have hB1 : Below wb.heap.size wb w1 := below_step (by (repeat (first | with_reducible refine bel_drew ?_ | with_reducible refine bel_alloc ?_)); with_reducible exact hp) hr1))
  all_goals
    go_wp2_with fail
    go_ret
    exact ⟨rfl, below_then' HBB.out hB3⟩
theorem value_ref (x : tValue.T) (cs : List Value) (ok : Nat → Prop) (w : World) (hH : Holds w ok tValue x cs) (hok : tValue.cod.ok x) (hlen : (tValue.cod.enc x).length ≤ 68719476736) :
    Calls Try.prog 72 #[.agg cs.toArray] w fun e w' => e = .returned (.string (mkb (tValue.cod.enc x))) ∧ Below w.heap.size w w' := by
  obtain ⟨y0, ⟨y1, y2⟩⟩ := x
  exact value_refL y0 y1 y2 cs ok w hH hok hlen
set_option maxRecDepth 100000 in
set_option maxHeartbeats 8000000 in
theorem tid_refL (y0 : Int) (y1 : Int) (y2 : Int) (cs : List Value) (ok : Nat → Prop) (w : World) (hH : Holds w ok tTid (y0, (y1, y2)) cs) (hok : tTid.cod.ok (y0, (y1, y2))) (hlen : (tTid.cod.enc (y0, (y1, y2))).length ≤ 68719476736) :
    Calls Try.prog 42 #[.agg cs.toArray] w fun e w' => e = .returned (.string (mkb (tTid.cod.enc (y0, (y1, y2))))) ∧ Below w.heap.size w w' := by
  obtain ⟨ca1, cb1, rfl, ha1, hb1⟩ := Holds.pair_cell hH
  obtain rfl := Holds.int_cell ha1
  obtain ⟨ca2, cb2, rfl, ha2, hb2⟩ := Holds.pair_cell hb1
  obtain rfl := Holds.int_cell ha2
  obtain rfl := Holds.int_cell hb2
  clear ha1 hb1 ha2 hb2
  obtain ⟨R0, hR0⟩ : ∃ R, [y0, y1, y2].flatMap num = R := ⟨_, rfl⟩
  have hE : tTid.cod.enc (y0, (y1, y2)) = R0 := by
    have h1 : tTid.cod.enc (y0, (y1, y2)) = (num y0 ++ (num y1 ++ num y2)) := rfl
    rw [h1, ← hR0]
    simp only [List.append_assoc, List.flatMap_cons, List.flatMap_nil, List.append_nil]
  rw [hE] at hlen
  rw [hE]
  have hl0 : R0.length ≤ 68719476736 := hlen
  have HF0 := Lib.hid (show ∀ n ∈ [y0, y1, y2], Fits n from fits_cons hok.1 (fits_cons hok.2.1 (fits_cons hok.2.2 (fits_nil))))
  obtain ⟨wb, hwb⟩ : ∃ wb, w.alloc (.cells #[.int .i64 y0, .int .i64 y1, .int .i64 y2] 48) = wb := ⟨_, rfl⟩
  have hbb : Below w.heap.size w wb := by rw [← hwb]; exact (Below.refl _ _).alloc (Nat.le_refl _) _
  have q0 : wb.cell? ⟨w.heap.size, 0, none⟩ = some (.int .i64 y0) := by rw [← hwb]; exact (blk_cell (blk_new w _) 0).trans rfl
  have q1 : wb.cell? ⟨w.heap.size, 1, none⟩ = some (.int .i64 y1) := by rw [← hwb]; exact (blk_cell (blk_new w _) 1).trans rfl
  have q2 : wb.cell? ⟨w.heap.size, 2, none⟩ = some (.int .i64 y2) := by rw [← hwb]; exact (blk_cell (blk_new w _) 2).trans rfl
  have hNb : w.heap.size < wb.heap.size := by rw [← hwb]; simp
  have HBB := Lib.hid hbb
  have HR0 := Lib.hid hR0
  clear hE hlen hok hbb hR0  
  show Calls Try.prog 42 #[.agg #[.int .i64 y0, .int .i64 y1, .int .i64 y2]] w _
  go_enter Try.func42, Try.ntmps42
  go_wp2_with fail
  clear hwb
  have hB0 : Below wb.heap.size wb wb := Below.refl _ _
  have KK : Hid (∀ w', Below wb.heap.size wb w' → (Below wb.heap.size wb w' ∧ w'.cell? ⟨w.heap.size, 0, none⟩ = some (.int .i64 y0) ∧ w'.cell? ⟨w.heap.size, 1, none⟩ = some (.int .i64 y1) ∧ w'.cell? ⟨w.heap.size, 2, none⟩ = some (.int .i64 y2))) := Lib.hid (fun w' hX => ⟨hX, keep1 q0 hX, keep1 q1 hX, keep1 q2 hX⟩)
  have hp := hB0
  refine (nums_at [y0, y1, y2] R0 HR0.out 3 rfl _ 3 _ (by decide) HF0.out (by repeat (first | ((with_reducible refine rowB ?_ ?_); rfl; (first | (with_reducible rfl) | (simp; done)); done) | with_reducible refine row_drew ?_ | with_reducible refine row_alloc ?_ | with_reducible refine row_below hr1 ?_))).mono ?_
  rintro e w1 ⟨rfl, hr1⟩
  have hB1 : Below wb.heap.size wb w1 := below_step (by (repeat (first | with_reducible refine bel_drew ?_ | with_reducible refine bel_alloc ?_)); with_reducible exact hp) hr1
  all_goals
    go_wp2_with fail
    go_ret
    exact ⟨rfl, below_then' HBB.out hB1⟩
theorem tid_ref (x : tTid.T) (cs : List Value) (ok : Nat → Prop) (w : World) (hH : Holds w ok tTid x cs) (hok : tTid.cod.ok x) (hlen : (tTid.cod.enc x).length ≤ 68719476736) :
    Calls Try.prog 42 #[.agg cs.toArray] w fun e w' => e = .returned (.string (mkb (tTid.cod.enc x))) ∧ Below w.heap.size w w' := by
  obtain ⟨y0, ⟨y1, y2⟩⟩ := x
  exact tid_refL y0 y1 y2 cs ok w hH hok hlen
set_option maxRecDepth 100000 in
set_option maxHeartbeats 8000000 in
theorem writes_all : ListRef 47 tWrite := by
  intro l A cap ok w hH hok hlen
  obtain ⟨L, hL⟩ : ∃ L, l.length = L := ⟨_, rfl⟩
  have hl : l.length ≤ top := hok.1
  have hL2 : L ≤ 9223372036854775807 := by rw [← hL]; exact hl
  have he : (Ty.list tWrite).cod.enc l = num (L : Int) ++ encs tWrite.cod l := by rw [← hL]; rfl
  have HH := Lib.hid hH
  have HOK := Lib.hid hok
  have HLEN := Lib.hid hlen
  have HE := Lib.hid he
  rw [hL]
  have HL := Lib.hid hL
  clear hL hH hok hlen he hl
  go_enter Try.func47, Try.ntmps47
  go_wp2_with fail
  refine (num_ref (L : Int) _ ⟨by omega, by omega⟩).mono ?_
  rintro e w1 ⟨rfl, hb0⟩
  have HB0 := Lib.hid hb0
  clear hb0
  go_wp2_with fail
  go_loopw [3, 4] (fun v3 v4 wr => ∃ k : Nat, v4 = .int .i64 (k : Int) ∧ k ≤ L ∧ v3 = .string (mkb (num (L : Int) ++ encs tWrite.cod (l.take k))) ∧ Below w.heap.size w wr) (fun _ v4 _ => L - (intOf v4).toNat)
  case atStart => exact ⟨0, rfl, by omega, by simp [encs], HB0.out⟩
  case round =>
    obtain ⟨k, rfl, hk, rfl, hb⟩ := hrel
    have HB := Lib.hid hb
    clear hb
    by_cases hlt : k < L
    · obtain ⟨y, hy⟩ : ∃ y, l[k]? = some y := ⟨_, List.getElem?_eq_getElem (by rw [HL.out]; exact hlt)⟩
      obtain ⟨ab, ao, cs, rfl, hoka, hHy, hcs⟩ := HH.out.list_at hy
      obtain ⟨hyok, hsz1⟩ := entry_fits HOK.out HLEN.out hy
      obtain ⟨y0, y1, y2, rfl⟩ : ∃ (y0 : ByteArray) (y1 : ByteArray) (y2 : Bool), y = ((y0, y1), y2) := by
        obtain ⟨⟨y0, y1⟩, y2⟩ := y
        exact ⟨_, _, _, rfl⟩
      obtain ⟨ca1, cb1, rfl, ha1, hb1⟩ := Holds.pair_cell hHy
      obtain ⟨ca2, cb2, rfl, ha2, hb2⟩ := Holds.pair_cell ha1
      obtain rfl := Holds.str_cell ha2
      obtain rfl := Holds.str_cell hb2
      obtain rfl := Holds.bool_cell hb1
      have m0 : w.cell? ⟨ab, ao + k * 3, none⟩ = some (.string y0) := hcs 0 _ rfl
      have m1 : w.cell? ⟨ab, ao + k * 3 + 1, none⟩ = some (.string y1) := hcs 1 _ rfl
      have m2 : w.cell? ⟨ab, ao + k * 3 + 2, none⟩ = some (.bool y2) := hcs 2 _ rfl
      have q0 := keep1 m0 HB.out
      have q1 := keep1 m1 HB.out
      have q2 := keep1 m2 HB.out
      obtain ⟨R0, hR0⟩ : ∃ R, cStr.enc y0 = R := ⟨_, rfl⟩
      obtain ⟨R1, hR1⟩ : ∃ R, cStr.enc y1 = R := ⟨_, rfl⟩
      obtain ⟨R2, hR2⟩ : ∃ R, cFlag.enc y2 = R := ⟨_, rfl⟩
      obtain ⟨Pp, hPp⟩ : ∃ P, num (L : Int) ++ encs tWrite.cod (l.take k) = P := ⟨_, rfl⟩
      obtain ⟨P0, hP0⟩ : ∃ P, Pp ++ R0 = P := ⟨_, rfl⟩
      obtain ⟨P1, hP1⟩ : ∃ P, P0 ++ R1 = P := ⟨_, rfl⟩
      obtain ⟨P2, hP2⟩ : ∃ P, P1 ++ R2 = P := ⟨_, rfl⟩
      have hE : Pp ++ tWrite.cod.enc ((y0, y1), y2) = P2 := by
        have h1 : tWrite.cod.enc ((y0, y1), y2) = ((cStr.enc y0 ++ cStr.enc y1) ++ cFlag.enc y2) := rfl
        rw [h1, ← hP2, ← hP1, ← hP0, ← hR0, ← hR1, ← hR2]
        simp only [List.append_assoc, List.flatMap_cons, List.flatMap_nil, List.append_nil]
      rw [HL.out, hPp] at hsz1
      rw [hPp]
      have hl3 : P2.length ≤ 68719476736 := by rw [← hE, List.length_append]; exact hsz1
      have hl2 : P1.length + R2.length ≤ 68719476736 := by rw [← List.length_append, hP2]; exact hl3
      have hl1 : P0.length + R1.length ≤ 68719476736 := by rw [← List.length_append, hP1]; omega
      have hl0 : Pp.length + R0.length ≤ 68719476736 := by rw [← List.length_append, hP0]; omega
      have hs0 : y0.size ≤ 281474976710656 := str_size hR0 (by omega)
      have hs1 : y1.size ≤ 281474976710656 := str_size hR1 (by omega)
      have sa0 : ¬ 9223372036854775807 < (mkb Pp).size + (mkb R0).size := by simp only [mkb_size]; omega
      have sc0 : mkb Pp ++ mkb R0 = mkb P0 := by rw [mkb_append, hP0]
      have sa1 : ¬ 9223372036854775807 < (mkb P0).size + (mkb R1).size := by simp only [mkb_size]; omega
      have sc1 : mkb P0 ++ mkb R1 = mkb P1 := by rw [mkb_append, hP1]
      have sa2 : ¬ 9223372036854775807 < (mkb P1).size + (mkb R2).size := by simp only [mkb_size]; omega
      have sc2 : mkb P1 ++ mkb R2 = mkb P2 := by rw [mkb_append, hP2]
      have hab : ab < wr.heap.size := World.block_lt_of_cell? wr _ q0
      have HY := Lib.hid hy
      have HPE := Lib.hid hE
      have HPp := Lib.hid hPp
      have HR0 := Lib.hid hR0
      have HR1 := Lib.hid hR1
      have HR2 := Lib.hid hR2
      clear hcs hy hsz1 hyok hE hPp hoka m0 m1 m2 hR0 hP0 hR1 hP1 hR2 hP2 hHy ha1 ha2 hb2 hb1 
      have b0 : (0 : Int) ≤ (k : Int) := by omega
      have b1 : (k : Int) < (L : Int) := by omega
      go_wp2_with fail
      have hB0 : Below wr.heap.size wr wr := Below.refl _ _
      have KK : Hid (∀ w', Below wr.heap.size wr w' → (Below wr.heap.size wr w' ∧ w'.cell? ⟨ab, ao + k * 3, none⟩ = some (.string y0) ∧ w'.cell? ⟨ab, ao + k * 3 + 1, none⟩ = some (.string y1) ∧ w'.cell? ⟨ab, ao + k * 3 + 2, none⟩ = some (.bool y2))) := Lib.hid (fun w' hX => ⟨hX, keep1 q0 hX, keep1 q1 hX, keep1 q2 hX⟩)
      go_region_held3 (fun w' => Below wr.heap.size wr w' ∧ w'.cell? ⟨ab, ao + k * 3, none⟩ = some (.string y0) ∧ w'.cell? ⟨ab, ao + k * 3 + 1, none⟩ = some (.string y1) ∧ w'.cell? ⟨ab, ao + k * 3 + 2, none⟩ = some (.bool y2))
        (first | ((with_reducible refine KK.out _ ?_); (repeat (first | with_reducible refine bel_drew ?_ | with_reducible refine bel_alloc ?_)); first | with_reducible exact hB3 | with_reducible exact hB2 | with_reducible exact hB1 | with_reducible exact hB0))
        (first | (go_at_call 30; have hp := hB2; refine (flag_ref' y2 R2 HR2.out _).mono ?_; rintro e v3 ⟨rfl, hr3⟩; have hB3 : Below wr.heap.size wr v3 := below_step (by (repeat (first | with_reducible refine bel_drew ?_ | with_reducible refine bel_alloc ?_)); with_reducible exact hp) hr3) | (go_at_call 32; have hp := hB1; refine (text_ref' y1 R1 HR1.out _ hs1).mono ?_; rintro e v2 ⟨rfl, hr2⟩; have hB2 : Below wr.heap.size wr v2 := below_step (by (repeat (first | with_reducible refine bel_drew ?_ | with_reducible refine bel_alloc ?_)); with_reducible exact hp) hr2) | (go_at_call 32; have hp := hB0; refine (text_ref' y0 R0 HR0.out _ hs0).mono ?_; rintro e v1 ⟨rfl, hr1⟩; have hB1 : Below wr.heap.size wr v1 := below_step (by (repeat (first | with_reducible refine bel_drew ?_ | with_reducible refine bel_alloc ?_)); with_reducible exact hp) hr1))
      all_goals
        go_wp2_with fail
        go_roundw
        case rel =>
          refine ⟨k + 1, by go_num, by omega, ?_, below_step HB.out hB3⟩
          rw [encs_snoc _ l k _ HY.out, ← List.append_assoc, HPp.out]
          exact congrArg (fun l => Value.string (mkb l)) HPE.out.symm
        case measure => simp [intOf]; omega
    · obtain rfl : k = L := by omega
      go_wp2_with fail
      go_ret
      refine ⟨?_, HB.out⟩
      rw [HE.out, ← HL.out, List.take_length]
      rfl
end Go.Proofs.Ytlcgkcmicklihaa.Wire
