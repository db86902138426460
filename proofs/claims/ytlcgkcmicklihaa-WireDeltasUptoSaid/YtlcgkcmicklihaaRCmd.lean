/- The reference over a command. -/
import Derived.Test.YtlcgkcmicklihaaRVal
import Derived.Test.YtlcgkcmicklihaaIB
import Derived.Test.YtlcgkcmicklihaaRLib
import Derived.Test.YtlcgkcmicklihaaWide
import Derived.Test.YtlcgkcmicklihaaRDdl
import Derived.Test.YtlcgkcmicklihaaHCmd
namespace Go.Proofs.Ytlcgkcmicklihaa.Wire
set_option linter.unusedVariables false
set_option linter.unusedSimpArgs false
open Go.RowKit Go.Proofs.YtlcgkcmicklihaaW.PrintWords Go.Proofs.YtlcgkcmicklihaaW.PrintLast Go.Proofs.YtlcgkcmicklihaaW.PrintMore
set_option maxRecDepth 100000 in
set_option maxHeartbeats 16000000 in
theorem reads_all : ListRef 46 tReading := by
  intro l A cap ok w hH hok hlen
  obtain ⟨L, hL⟩ : ∃ L, l.length = L := ⟨_, rfl⟩
  have hl : l.length ≤ top := hok.1
  have hL2 : L ≤ 9223372036854775807 := by rw [← hL]; exact hl
  have he : (Ty.list tReading).cod.enc l = num (L : Int) ++ encs tReading.cod l := by rw [← hL]; rfl
  have HH := Lib.hid hH
  have HOK := Lib.hid hok
  have HLEN := Lib.hid hlen
  have HE := Lib.hid he
  rw [hL]
  have HL := Lib.hid hL
  clear hL hH hok hlen he hl
  go_enter Try.func46, Try.ntmps46
  go_wp2_with fail
  refine (num_ref (L : Int) _ ⟨by omega, by omega⟩).mono ?_
  rintro e w1 ⟨rfl, hb0⟩
  have HB0 := Lib.hid hb0
  clear hb0
  go_wp2_with fail
  go_loopw [3, 4] (fun v3 v4 wr => ∃ k : Nat, v4 = .int .i64 (k : Int) ∧ k ≤ L ∧ v3 = .string (mkb (num (L : Int) ++ encs tReading.cod (l.take k))) ∧ Below w.heap.size w wr) (fun _ v4 _ => L - (intOf v4).toNat)
  case atStart => exact ⟨0, rfl, by omega, by simp [encs], HB0.out⟩
  case round =>
    obtain ⟨k, rfl, hk, rfl, hb⟩ := hrel
    have HB := Lib.hid hb
    clear hb
    by_cases hlt : k < L
    · obtain ⟨y, hy⟩ : ∃ y, l[k]? = some y := ⟨_, List.getElem?_eq_getElem (by rw [HL.out]; exact hlt)⟩
      obtain ⟨ab, ao, cs, rfl, hoka, hHy, hcs⟩ := HH.out.list_at hy
      obtain ⟨hyok, hsz1⟩ := entry_fits HOK.out HLEN.out hy
      obtain ⟨y0, y1, y2, rfl⟩ : ∃ (y0 : ByteArray) (y1 : ByteArray) (y2 : List tStamp.T), y = ((y0, y1), y2) := by
        obtain ⟨⟨y0, y1⟩, y2⟩ := y
        exact ⟨_, _, _, rfl⟩
      obtain ⟨ca1, cb1, rfl, ha1, hb1⟩ := Holds.pair_cell hHy
      obtain ⟨ca2, cb2, rfl, ha2, hb2⟩ := Holds.pair_cell ha1
      obtain rfl := Holds.str_cell ha2
      obtain rfl := Holds.str_cell hb2
      obtain ⟨A2, cap2, rfl, hh2⟩ := Holds.list_cell hb1
      obtain ⟨LI, hLI⟩ : ∃ LI, y2.length = LI := ⟨_, rfl⟩
      have m0 : w.cell? ⟨ab, ao + k * 3, none⟩ = some (.string y0) := hcs 0 _ rfl
      have m1 : w.cell? ⟨ab, ao + k * 3 + 1, none⟩ = some (.string y1) := hcs 1 _ rfl
      have m2 : w.cell? ⟨ab, ao + k * 3 + 2, none⟩ = some (.slice A2 y2.length cap2) := hcs 2 _ rfl
      rw [hLI] at m2 hh2
      have q0 := keep1 m0 HB.out
      have q1 := keep1 m1 HB.out
      have q2 := keep1 m2 HB.out
      have hli1 : y2.length ≤ 9223372036854775807 := hyok.2.1
      rw [hLI] at hli1
      obtain ⟨Pp, hPp⟩ : ∃ P, num (L : Int) ++ encs tReading.cod (l.take k) = P := ⟨_, rfl⟩
      rw [HL.out, hPp] at hsz1
      rw [hPp]
      have hEE : Pp ++ tReading.cod.enc ((y0, y1), y2) = Pp ++ (cStr.enc y0) ++ (cStr.enc y1) ++ (num (LI : Int)) ++ encs tStamp.cod y2 := by
        have h1 : tReading.cod.enc ((y0, y1), y2) = ((cStr.enc y0 ++ cStr.enc y1) ++ (Ty.list tStamp).cod.enc y2) := rfl
        have h2 : (Ty.list tStamp).cod.enc y2 = num (y2.length : Int) ++ encs tStamp.cod y2 := rfl
        rw [h1, h2, hLI]
        simp only [List.append_assoc, List.flatMap_cons, List.flatMap_nil, List.append_nil]
      have htot : (Pp ++ (cStr.enc y0) ++ (cStr.enc y1) ++ (num (LI : Int)) ++ encs tStamp.cod y2).length ≤ 68719476736 := by rw [← hEE, List.length_append]; exact hsz1
      obtain ⟨Ra0, hRa0⟩ : ∃ R, cStr.enc y0 = R := ⟨_, rfl⟩
      obtain ⟨Ra1, hRa1⟩ : ∃ R, cStr.enc y1 = R := ⟨_, rfl⟩
      obtain ⟨Ra2, hRa2⟩ : ∃ R, num (LI : Int) = R := ⟨_, rfl⟩
      obtain ⟨Pa0, hPa0⟩ : ∃ P, Pp ++ Ra0 = P := ⟨_, rfl⟩
      obtain ⟨Pa1, hPa1⟩ : ∃ P, Pa0 ++ Ra1 = P := ⟨_, rfl⟩
      obtain ⟨Pa2, hPa2⟩ : ∃ P, Pa1 ++ Ra2 = P := ⟨_, rfl⟩
      have hEa : Pa2 = Pp ++ (cStr.enc y0) ++ (cStr.enc y1) ++ (num (LI : Int)) := by rw [← hPa2, ← hPa1, ← hPa0, ← hRa0, ← hRa1, ← hRa2]
      have hla3 : Pa2.length ≤ 68719476736 := by rw [hEa]; rw [List.length_append] at htot; omega
      have hla2 : Pa1.length + Ra2.length ≤ 68719476736 := by rw [← List.length_append, hPa2]; exact hla3
      have hla1 : Pa0.length + Ra1.length ≤ 68719476736 := by rw [← List.length_append, hPa1]; omega
      have hla0 : Pp.length + Ra0.length ≤ 68719476736 := by rw [← List.length_append, hPa0]; omega
      have hsa0 : y0.size ≤ 281474976710656 := str_size hRa0 (by omega)
      have hsa1 : y1.size ≤ 281474976710656 := str_size hRa1 (by omega)
      have HFa2 := Lib.hid (show Fits (LI : Int) from ⟨by omega, by omega⟩)
      have saa0 : ¬ 9223372036854775807 < (mkb Pp).size + (mkb Ra0).size := by simp only [mkb_size]; omega
      have sca0 : mkb Pp ++ mkb Ra0 = mkb Pa0 := by rw [mkb_append, hPa0]
      have saa1 : ¬ 9223372036854775807 < (mkb Pa0).size + (mkb Ra1).size := by simp only [mkb_size]; omega
      have sca1 : mkb Pa0 ++ mkb Ra1 = mkb Pa1 := by rw [mkb_append, hPa1]
      have saa2 : ¬ 9223372036854775807 < (mkb Pa1).size + (mkb Ra2).size := by simp only [mkb_size]; omega
      have sca2 : mkb Pa1 ++ mkb Ra2 = mkb Pa2 := by rw [mkb_append, hPa2]
      have HRa0 := Lib.hid hRa0
      have HRa1 := Lib.hid hRa1
      have HRa2 := Lib.hid hRa2
      have HEa := Lib.hid hEa
      clear hEa hRa0 hPa0 hRa1 hPa1 hRa2 hPa2
      have hTT : (Pa2 ++ encs tStamp.cod y2).length ≤ 68719476736 := by rw [HEa.out]; exact htot
      have hPE : Pp ++ tReading.cod.enc ((y0, y1), y2) = Pa2 ++ encs tStamp.cod y2 := by rw [HEa.out]; exact hEE
      have hab : ab < wr.heap.size := World.block_lt_of_cell? wr _ q0
      have HY := Lib.hid hy
      have HPE := Lib.hid hPE
      have HPp := Lib.hid hPp
      have HTT := Lib.hid hTT
      have HLI := Lib.hid hLI
      have HI := Lib.hid hh2
      have HIOK := Lib.hid hyok.2
      have M0 := Lib.hid m0
      have M1 := Lib.hid m1
      have M2 := Lib.hid m2
      clear hcs hy hsz1 hyok hEE htot hTT hPE hPp hoka hLI hh2 m0 m1 m2 ha1 ha2 hb2 hb1
      have b0 : (0 : Int) ≤ (k : Int) := by omega
      have b1 : (k : Int) < (L : Int) := by omega
      go_wp2_with fail
      have hBa0 : Below wr.heap.size wr wr := Below.refl _ _
      have KKa : Hid (∀ w', Below wr.heap.size wr w' → (Below wr.heap.size wr w' ∧ w'.cell? ⟨ab, ao + k * 3, none⟩ = some (.string y0) ∧ w'.cell? ⟨ab, ao + k * 3 + 1, none⟩ = some (.string y1) ∧ w'.cell? ⟨ab, ao + k * 3 + 2, none⟩ = some (.slice A2 LI cap2))) := Lib.hid (fun w' hX => ⟨hX, keep1 q0 hX, keep1 q1 hX, keep1 q2 hX⟩)
      go_region_held3 (fun w' => Below wr.heap.size wr w' ∧ w'.cell? ⟨ab, ao + k * 3, none⟩ = some (.string y0) ∧ w'.cell? ⟨ab, ao + k * 3 + 1, none⟩ = some (.string y1) ∧ w'.cell? ⟨ab, ao + k * 3 + 2, none⟩ = some (.slice A2 LI cap2))
        (first | ((with_reducible refine KKa.out _ ?_); (repeat (first | with_reducible refine bel_drew ?_ | with_reducible refine bel_alloc ?_)); first | with_reducible exact hBa3 | with_reducible exact hBa2 | with_reducible exact hBa1 | with_reducible exact hBa0))
        (first | (go_at_call 41; have hp := hBa2; refine (num_ref' (LI : Int) Ra2 HRa2.out _ HFa2.out).mono ?_; rintro e va3 ⟨rfl, hra3⟩; have hBa3 : Below wr.heap.size wr va3 := below_step (by (repeat (first | with_reducible refine bel_drew ?_ | with_reducible refine bel_alloc ?_)); with_reducible exact hp) hra3) | (go_at_call 32; have hp := hBa1; refine (text_ref' y1 Ra1 HRa1.out _ hsa1).mono ?_; rintro e va2 ⟨rfl, hra2⟩; have hBa2 : Below wr.heap.size wr va2 := below_step (by (repeat (first | with_reducible refine bel_drew ?_ | with_reducible refine bel_alloc ?_)); with_reducible exact hp) hra2) | (go_at_call 32; have hp := hBa0; refine (text_ref' y0 Ra0 HRa0.out _ hsa0).mono ?_; rintro e va1 ⟨rfl, hra1⟩; have hBa1 : Below wr.heap.size wr va1 := below_step (by (repeat (first | with_reducible refine bel_drew ?_ | with_reducible refine bel_alloc ?_)); with_reducible exact hp) hra1))
      all_goals
        have HBa := Lib.hid (below_step HB.out hBa3)
        go_wp2_with fail
        go_loopw [3, 5] (fun v3 v5 wi => ∃ j : Nat, v5 = .int .i64 (j : Int) ∧ j ≤ LI ∧ v3 = .string (mkb (Pa2 ++ encs tStamp.cod (y2.take j))) ∧ Below w.heap.size w wi) (fun _ v5 _ => LI - (intOf v5).toNat)
        case atStart => exact ⟨0, rfl, by omega, by simp [encs], HBa.out⟩
        case round =>
          obtain ⟨j, rfl, hj, rfl, hbi⟩ := hrel
          have HBi := Lib.hid hbi
          have p0 := keep1 M0.out hbi
          have p1 := keep1 M1.out hbi
          have p2 := keep1 M2.out hbi
          clear hbi
          by_cases hlj : j < LI
          · obtain ⟨z, hz⟩ : ∃ z, y2[j]? = some z := ⟨_, List.getElem?_eq_getElem (by rw [HLI.out]; exact hlj)⟩
            obtain ⟨bb, bo, ds, rfl, hokb, hHz, hds⟩ := HI.out.list_at hz
            have hzok := HIOK.out.2 _ (List.mem_of_getElem? hz)
            have hsz2 := encs_take_le tStamp.cod y2 (j + 1)
            rw [encs_snoc _ y2 j z hz] at hsz2
            obtain ⟨z0, z1, rfl⟩ : ∃ (z0 : ByteArray) (z1 : Int), z = (z0, z1) := by
              obtain ⟨z0, z1⟩ := z
              exact ⟨_, _, rfl⟩
            obtain ⟨caz1, cbz1, rfl, haz1, hbz1⟩ := Holds.pair_cell hHz
            obtain rfl := Holds.str_cell haz1
            obtain rfl := Holds.int_cell hbz1
            have n0 := keep1 (show w.cell? ⟨bb, bo + j * 2, none⟩ = some (.string z0) from hds 0 _ rfl) HBi.out
            have n1 := keep1 (show w.cell? ⟨bb, bo + j * 2 + 1, none⟩ = some (.int .i64 z1) from hds 1 _ rfl) HBi.out
            obtain ⟨Pq, hPq⟩ : ∃ P, Pa2 ++ encs tStamp.cod (y2.take j) = P := ⟨_, rfl⟩
            rw [hPq]
            have hEE : Pq ++ tStamp.cod.enc (z0, z1) = Pq ++ (cStr.enc z0) ++ (num z1) := by
              have h1 : tStamp.cod.enc (z0, z1) = (cStr.enc z0 ++ num z1) := rfl
              rw [h1]
              simp only [List.append_assoc, List.flatMap_cons, List.flatMap_nil, List.append_nil]
            have htot : (Pq ++ (cStr.enc z0) ++ (num z1)).length ≤ 68719476736 := by
              rw [← hEE, ← hPq]
              have h3 := HTT.out
              have h4 : (encs tStamp.cod (y2.take j) ++ tStamp.cod.enc (z0, z1)).length ≤ (encs tStamp.cod y2).length := hsz2
              simp only [List.length_append] at h3 h4 ⊢
              omega
            obtain ⟨Rb0, hRb0⟩ : ∃ R, cStr.enc z0 = R := ⟨_, rfl⟩
            obtain ⟨Rb1, hRb1⟩ : ∃ R, num z1 = R := ⟨_, rfl⟩
            obtain ⟨Pb0, hPb0⟩ : ∃ P, Pq ++ Rb0 = P := ⟨_, rfl⟩
            obtain ⟨Pb1, hPb1⟩ : ∃ P, Pb0 ++ Rb1 = P := ⟨_, rfl⟩
            have hEb : Pb1 = Pq ++ (cStr.enc z0) ++ (num z1) := by rw [← hPb1, ← hPb0, ← hRb0, ← hRb1]
            have hlb2 : Pb1.length ≤ 68719476736 := by rw [hEb]; exact htot
            have hlb1 : Pb0.length + Rb1.length ≤ 68719476736 := by rw [← List.length_append, hPb1]; exact hlb2
            have hlb0 : Pq.length + Rb0.length ≤ 68719476736 := by rw [← List.length_append, hPb0]; omega
            have hsb0 : z0.size ≤ 281474976710656 := str_size hRb0 (by omega)
            have HFb1 := Lib.hid (show Fits z1 from hzok.2)
            have sab0 : ¬ 9223372036854775807 < (mkb Pq).size + (mkb Rb0).size := by simp only [mkb_size]; omega
            have scb0 : mkb Pq ++ mkb Rb0 = mkb Pb0 := by rw [mkb_append, hPb0]
            have sab1 : ¬ 9223372036854775807 < (mkb Pb0).size + (mkb Rb1).size := by simp only [mkb_size]; omega
            have scb1 : mkb Pb0 ++ mkb Rb1 = mkb Pb1 := by rw [mkb_append, hPb1]
            have HRb0 := Lib.hid hRb0
            have HRb1 := Lib.hid hRb1
            have HEb := Lib.hid hEb
            clear hEb hRb0 hPb0 hRb1 hPb1
            have hPE : Pq ++ tStamp.cod.enc (z0, z1) = Pb1 := by rw [HEb.out]; exact hEE
            have hbb : bb < wr.heap.size := World.block_lt_of_cell? wr _ n0
            have HZ := Lib.hid hz
            have HPEz := Lib.hid hPE
            have HPq := Lib.hid hPq
            clear hds hz hsz2 hzok hEE htot hPE hPq hokb haz1 hbz1
            have c0 : (0 : Int) ≤ (j : Int) := by omega
            have c1 : (j : Int) < (LI : Int) := by omega
            go_wp2_with fail
            have hBb0 : Below wr.heap.size wr wr := Below.refl _ _
            have KKb : Hid (∀ w', Below wr.heap.size wr w' → (Below wr.heap.size wr w' ∧ w'.cell? ⟨ab, ao + k * 3, none⟩ = some (.string y0) ∧ w'.cell? ⟨ab, ao + k * 3 + 1, none⟩ = some (.string y1) ∧ w'.cell? ⟨ab, ao + k * 3 + 2, none⟩ = some (.slice (some ⟨bb, bo, none⟩) LI cap2) ∧ w'.cell? ⟨bb, bo + j * 2, none⟩ = some (.string z0) ∧ w'.cell? ⟨bb, bo + j * 2 + 1, none⟩ = some (.int .i64 z1))) := Lib.hid (fun w' hX => ⟨hX, keep1 p0 hX, keep1 p1 hX, keep1 p2 hX, keep1 n0 hX, keep1 n1 hX⟩)
            go_region_held3 (fun w' => Below wr.heap.size wr w' ∧ w'.cell? ⟨ab, ao + k * 3, none⟩ = some (.string y0) ∧ w'.cell? ⟨ab, ao + k * 3 + 1, none⟩ = some (.string y1) ∧ w'.cell? ⟨ab, ao + k * 3 + 2, none⟩ = some (.slice (some ⟨bb, bo, none⟩) LI cap2) ∧ w'.cell? ⟨bb, bo + j * 2, none⟩ = some (.string z0) ∧ w'.cell? ⟨bb, bo + j * 2 + 1, none⟩ = some (.int .i64 z1))
              (first | ((with_reducible refine KKb.out _ ?_); (repeat (first | with_reducible refine bel_drew ?_ | with_reducible refine bel_alloc ?_)); first | with_reducible exact hBb2 | with_reducible exact hBb1 | with_reducible exact hBb0))
              (first | (go_at_call 41; have hp := hBb1; refine (num_ref' z1 Rb1 HRb1.out _ HFb1.out).mono ?_; rintro e vb2 ⟨rfl, hrb2⟩; have hBb2 : Below wr.heap.size wr vb2 := below_step (by (repeat (first | with_reducible refine bel_drew ?_ | with_reducible refine bel_alloc ?_)); with_reducible exact hp) hrb2) | (go_at_call 32; have hp := hBb0; refine (text_ref' z0 Rb0 HRb0.out _ hsb0).mono ?_; rintro e vb1 ⟨rfl, hrb1⟩; have hBb1 : Below wr.heap.size wr vb1 := below_step (by (repeat (first | with_reducible refine bel_drew ?_ | with_reducible refine bel_alloc ?_)); with_reducible exact hp) hrb1))
            all_goals
              go_wp2_with fail
              go_roundw
              case rel =>
                refine ⟨j + 1, by go_num, by omega, ?_, below_step HBi.out hBb2⟩
                rw [encs_snoc _ y2 j _ HZ.out, ← List.append_assoc, HPq.out]
                exact congrArg (fun l => Value.string (mkb l)) HPEz.out.symm
              case measure => simp [intOf]; omega
          · obtain rfl : j = LI := by omega
            go_wp2_with fail
            go_roundw
            case rel =>
              refine ⟨k + 1, by go_num, by omega, ?_, HBi.out⟩
              rw [encs_snoc _ l k _ HY.out, ← List.append_assoc, HPp.out, ← HLI.out, List.take_length]
              exact congrArg (fun l => Value.string (mkb l)) HPE.out.symm
            case measure => simp [intOf]; omega
    · obtain rfl : k = L := by omega
      go_wp2_with fail
      go_ret
      refine ⟨?_, HB.out⟩
      rw [HE.out, ← HL.out, List.take_length]
      rfl
end Go.Proofs.Ytlcgkcmicklihaa.Wire
namespace Go.Proofs.Ytlcgkcmicklihaa.Wire
set_option linter.unusedVariables false
set_option linter.unusedSimpArgs false
open Go.RowKit Go.Proofs.YtlcgkcmicklihaaW.PrintWords Go.Proofs.YtlcgkcmicklihaaW.PrintLast Go.Proofs.YtlcgkcmicklihaaW.PrintMore
/-- A slice of numbers. -/
def IsRow (v : Value) (w : World) (l : List Int) : Prop := ∃ q c, v = .slice (some ⟨q, 0, none⟩) l.length c ∧ RowAt w q l
theorem IsRow.below {v : Value} {w w' : World} {l : List Int} (h : IsRow v w l) (hb : Below w.heap.size w w') : IsRow v w' l := by
  obtain ⟨q, c, hv, hr⟩ := h
  exact ⟨q, c, hv, row_below hb hr⟩
/-- What the temporary d holds: its value is known, or it is a row. -/
def Known (vals : List (Option Value)) (rows : List (Option (List Int))) (d : Nat) (v : Value) (w : World) : Prop := (∀ u, vals.getD d none = some u → v = u) ∧ ∀ l, rows.getD d none = some l → IsRow v w l
theorem Known.below {vals : List (Option Value)} {rows : List (Option (List Int))} {d : Nat} {v : Value} {w w' : World} (h : Known vals rows d v w) (hb : Below w.heap.size w w') : Known vals rows d v w' := ⟨h.1, fun l hl => (h.2 l hl).below hb⟩
def Yield (vals : List (Option Value)) (rows : List (Option (List Int))) (dst : Option Tmp) (v : Value) (w : World) : Prop := ∀ d, dst = some d → Known vals rows d v w
theorem yield_val {vals : List (Option Value)} {rows : List (Option (List Int))} {d : Nat} {v : Value} {w : World} (hv : vals.getD d none = some v) (hr : rows.getD d none = none) : Yield vals rows (some d) v w := fun d' h => by
  injection h with h
  subst h
  exact ⟨fun u hu => (by rw [hv] at hu; exact Option.some.inj hu), fun l hl => (by rw [hr] at hl; cases hl)⟩
theorem yield_row {vals : List (Option Value)} {rows : List (Option (List Int))} {d : Nat} {v : Value} {w : World} {l : List Int} (hv : vals.getD d none = none) (hr : rows.getD d none = some l) (h : IsRow v w l) : Yield vals rows (some d) v w := fun d' hd => by
  injection hd with hd
  subst hd
  exact ⟨fun u hu => (by rw [hv] at hu; cases hu), fun l' hl => (by rw [hr] at hl; injection hl with hl; subst hl; exact h)⟩
theorem tmp_of {a : Act} {d : Nat} {v : Value} (h : a.eval (.tmp d) = v) : a.tmps[d]?.getD undef = v := by simpa [Act.eval] using h
theorem known_val {vals : List (Option Value)} {rows : List (Option (List Int))} {d : Nat} {v u : Value} {w : World} (h : Known vals rows d v w) (hu : vals.getD d none = some u) : v = u := h.1 u hu
/-- Nobody in the region writes the temporary d. -/
def freeTmp (ops : Array Oper) (d : Nat) : Bool := (List.range ops.size).all fun i => match ops[i]? with | some o => decide (o.dst ≠ some d) | none => true
/-- The operation o waits for one that writes the temporary d. -/
def waitsFor (md : Region.Mode) (ops : Array Oper) (o : Oper) (d : Nat) : Bool := o.after.any fun e => Region.binds md e && (match ops[e.on]? with | some oe => decide (oe.dst = some d) | none => false)
/-- Every operation has a temporary of its own, inside the frame; it waits for earlier ones alone, and hangs on none. -/
def linOk (ops : Array Oper) (n : Nat) : Bool := (List.range ops.size).all fun i => match ops[i]? with
  | none => true
  | some o => o.guard.isNone && (match o.dst with | some d => decide (d < n) | none => false) && o.after.all (fun e => decide (e.on < i)) && (List.range i).all (fun j => match ops[j]? with | some o' => decide (o'.dst ≠ o.dst) | none => true)
section
variable {P : Program} {md : Region.Mode} {ops : Array Oper} {Q : Exit → Act → World → Prop} {a0 : Act} {w0 : World} {vals : List (Option Value)} {rows : List (Option (List Int))}
theorem freeTmp_spec {d i : Nat} {o : Oper} (h : freeTmp ops d = true) (ho : ops[i]? = some o) : o.dst ≠ some d := by
  have hi : i < ops.size := (Array.getElem?_eq_some_iff.1 ho).1
  have := List.all_eq_true.1 h i (List.mem_range.2 hi)
  rw [ho] at this
  exact of_decide_eq_true this
structure LinSpec (ops : Array Oper) (n i : Nat) (o : Oper) : Prop where
  guard : o.guard = none
  dst : ∃ d, o.dst = some d ∧ d < n
  after : ∀ e ∈ o.after, e.on < i
  ne : ∀ j o', j < i → ops[j]? = some o' → o'.dst ≠ o.dst
theorem linOk_spec {n i : Nat} {o : Oper} (h : linOk ops n = true) (ho : ops[i]? = some o) : LinSpec ops n i o := by
  have hi : i < ops.size := (Array.getElem?_eq_some_iff.1 ho).1
  have h1 := List.all_eq_true.1 h i (List.mem_range.2 hi)
  rw [ho] at h1
  simp only [Bool.and_eq_true] at h1
  obtain ⟨⟨⟨g, d⟩, af⟩, ne⟩ := h1
  refine ⟨by simpa using g, ?_, ?_, ?_⟩
  · cases hd : o.dst with
    | none => rw [hd] at d; cases d
    | some x => rw [hd] at d; exact ⟨x, rfl, of_decide_eq_true d⟩
  · intro e he
    have := Array.all_eq_true'.1 af e he
    exact of_decide_eq_true this
  · intro j o' hj ho'
    have h2 := List.all_eq_true.1 ne j (List.mem_range.2 hj)
    rw [ho'] at h2
    exact of_decide_eq_true h2
/-- What one operation is to show: in whatever state of the region it comes up. -/
def StepOk (P : Program) (md : Region.Mode) (ops : Array Oper) (Q : Exit → Act → World → Prop) (a0 : Act) (w0 : World) (vals : List (Option Value)) (rows : List (Option (List Int))) (o : Oper) : Prop :=
  ∀ (a : Act) (w : World), Below w0.heap.size w0 w → Hid (∀ d, freeTmp ops d = true → a.eval (.tmp d) = a0.eval (.tmp d)) → Hid (∀ d, waitsFor md ops o d = true → Known vals rows d (a.eval (.tmp d)) w) →
    ∀ K : Act → World → Prop, Hid (∀ v w', Below w.heap.size w w' → Yield vals rows o.dst v w' → K (a.put o.dst v) w') → Oper.wp P o a w K Q
def Steps (St : Oper → Prop) : List Oper → Prop
  | [] => True
  | o :: l => St o ∧ Steps St l
theorem Steps.cons {St : Oper → Prop} {o : Oper} {l : List Oper} (h : St o) (k : Steps St l) : Steps St (o :: l) := ⟨h, k⟩
theorem Steps.all {St : Oper → Prop} : ∀ {l : List Oper}, Steps St l → ∀ o ∈ l, St o
  | [], _, o, h => by cases h
  | x :: l, hs, o, h => by
    rcases List.mem_cons.1 h with rfl | h
    · exact hs.1
    · exact Steps.all hs.2 o h
structure LinInv (ops : Array Oper) (a0 : Act) (w0 : World) (vals : List (Option Value)) (rows : List (Option (List Int))) (listed : Array Bool) (a : Act) (w : World) : Prop where
  lsz : listed.size = ops.size
  asz : a.tmps.size = a0.tmps.size
  defers : a.defers = a0.defers
  below : Below w0.heap.size w0 w
  free : ∀ d, freeTmp ops d = true → a.eval (.tmp d) = a0.eval (.tmp d)
  known : ∀ (i : Nat) (o : Oper) (d : Nat), ops[i]? = some o → o.dst = some d → listed.getD i true = true → Known vals rows d (a.eval (.tmp d)) w
def unlisted (ops : Array Oper) (listed : Array Bool) : List Nat := (List.range ops.size).filter fun i => !listed.getD i true
theorem getD_same {listed : Array Bool} {i : Nat} (h : i < listed.size) (x y : Bool) : listed.getD i x = listed.getD i y := by
  simp [Array.getD, h]
theorem unlisted_set {listed : Array Bool} {i : Nat} (hi : i < ops.size) (hl : listed.size = ops.size) (h0 : listed.getD i true = false) : (unlisted ops (listed.setIfInBounds i true)).length < (unlisted ops listed).length := by
  have e : unlisted ops (listed.setIfInBounds i true) = (unlisted ops listed).filter (fun j => decide (j ≠ i)) := by
    unfold unlisted
    rw [List.filter_filter]
    apply List.filter_congr
    intro j hj
    have hj := List.mem_range.1 hj
    by_cases hji : j = i
    · subst hji
      simp [Array.getD, hl, hj]
    · have : (listed.setIfInBounds i true).getD j true = listed.getD j true := getD_set_ne true (Ne.symm hji)
      rw [this]
      simp [hji]
  rw [e]
  apply List.length_filter_lt_length_iff_exists.2
  refine ⟨i, ?_, by simp⟩
  unfold unlisted
  rw [List.mem_filter]
  exact ⟨List.mem_range.2 hi, by simp [h0]⟩
theorem ready_nil_all {n : Nat} (hok : linOk ops n = true) {listed : Array Bool} (hl : listed.size = ops.size) (h : Region.ready md ops listed = []) : ∀ i, i < ops.size → listed.getD i true = true := by
  intro i
  induction i using Nat.strongRecOn with
  | ind i ih =>
    intro hi
    cases hb : listed.getD i true with
    | true => rfl
    | false =>
      exfalso
      have ho : ops[i]? = some ops[i] := Array.getElem?_eq_getElem hi
      have hs := linOk_spec hok ho
      have : i ∈ Region.ready md ops listed := mem_ready.2 ⟨hb, _, ho, fun e he _ => by
        have h1 := hs.after e he
        rw [getD_same (by omega) false true]
        exact ih e.on h1 (by omega)⟩
      rw [h] at this
      cases this
theorem lin_go (hok : linOk ops a0.tmps.size = true) (hsteps : Steps (StepOk P md ops Q a0 w0 vals rows) ops.toList)
    (hend : ∀ a w, Below w0.heap.size w0 w → a.defers = a0.defers → (∀ (i : Nat) (o : Oper) (d : Nat), ops[i]? = some o → o.dst = some d → Known vals rows d (a.eval (.tmp d)) w) → Q .normal a w) :
    ∀ (fuel : Nat) (listed : Array Bool) (a : Act) (w : World), (unlisted ops listed).length ≤ fuel → LinInv ops a0 w0 vals rows listed a w → wpAny P md ops Q fuel listed a w := by
  have fin : ∀ (listed : Array Bool) (a : Act) (w : World), LinInv ops a0 w0 vals rows listed a w → Region.ready md ops listed = [] → Q .normal a w := fun listed a w hI hr =>
    hend a w hI.below hI.defers (fun i o d ho hd => hI.known i o d ho hd (ready_nil_all hok hI.lsz hr i (Array.getElem?_eq_some_iff.1 ho).1))
  intro fuel
  induction fuel with
  | zero =>
    intro listed a w hf hI
    have hr : Region.ready md ops listed = [] := by
      apply List.eq_nil_iff_forall_not_mem.2
      intro i hi
      obtain ⟨h0, o, ho, _⟩ := mem_ready.1 hi
      have : i ∈ unlisted ops listed := by
        unfold unlisted
        rw [List.mem_filter]
        exact ⟨List.mem_range.2 (Array.getElem?_eq_some_iff.1 ho).1, by simp [h0]⟩
      have := List.length_pos_of_mem this
      omega
    exact ⟨hr, fin listed a w hI hr⟩
  | succ fuel ih =>
    intro listed a w hf hI
    refine ⟨fin listed a w hI, fun i hi => ?_⟩
    obtain ⟨h0, o, ho, hall⟩ := mem_ready.1 hi
    have hlt : i < ops.size := (Array.getElem?_eq_some_iff.1 ho).1
    have hs := linOk_spec hok ho
    obtain ⟨d, hd, hdn⟩ := hs.dst
    refine wpOp_step ho (fun K' hK' => ?_)
    rw [if_pos (by simp [Region.wanted, hs.guard])]
    have hmem : o ∈ ops.toList := by
      rw [Array.mem_toList_iff]
      exact Array.mem_of_getElem? ho
    refine hsteps.all o hmem a w hI.below (Lib.hid hI.free) (Lib.hid fun d' hc => ?_) K' (Lib.hid fun v w' hb hy => hK' _ _ (ih _ _ _ ?_ ?_))
    · obtain ⟨e, he, hc⟩ := Array.any_eq_true'.1 hc
      simp only [Bool.and_eq_true] at hc
      obtain ⟨hb, hc⟩ := hc
      cases hoe : ops[e.on]? with
      | none => rw [hoe] at hc; cases hc
      | some oe =>
        rw [hoe] at hc
        have hle := hs.after e he
        have h1 := hall e he hb
        rw [getD_same (by have := hI.lsz; omega) false true] at h1
        exact hI.known e.on oe d' hoe (of_decide_eq_true hc) h1
    · have := unlisted_set hlt hI.lsz h0
      omega
    · have hev : (a.put o.dst v).eval (.tmp d) = v := by
        rw [hd]
        simp [Act.put, Act.eval, hI.asz, hdn]
      have hother : ∀ d', d' ≠ d → (a.put o.dst v).eval (.tmp d') = a.eval (.tmp d') := fun d' hne => Act.eval_put (fun x hx => by
        rw [hd] at hx
        injection hx with hx
        subst hx
        intro h
        injection h with h
        exact hne h)
      refine ⟨by simp [hI.lsz], by rw [hd]; simp [Act.put, hI.asz], by rw [hd]; exact hI.defers, below_step hI.below hb, fun d' hf' => ?_, fun j oj dj hoj hdj hlj => ?_⟩
      · rw [hother d' (fun h => by subst h; exact freeTmp_spec hf' ho hd)]
        exact hI.free d' hf'
      · by_cases hji : j = i
        · subst hji
          rw [ho] at hoj
          injection hoj with hoj
          subst hoj
          rw [hd] at hdj
          injection hdj with hdj
          subst hdj
          rw [hev]
          exact hy _ hd
        · have hlj' : listed.getD j true = true := by rw [← getD_set_ne true (Ne.symm hji)]; exact hlj
          have hne : dj ≠ d := by
            intro h
            subst h
            rcases Nat.lt_or_ge j i with h1 | h1
            · exact hs.ne j oj h1 hoj (by rw [hd, hdj])
            · exact (linOk_spec hok hoj).ne i o (by omega) ho (by rw [hd, hdj])
          rw [hother dj hne]
          exact (hI.known j oj dj hoj hdj hlj').below hb
/-- A region whose operations yield what is known ahead. -/
theorem wp_region_lin {id : Nat} {a : Act} {w : World} (vals : List (Option Value)) (rows : List (Option (List Int))) (hm : P.follows .mixedOrders = true) (hok : linOk ops a.tmps.size = true)
    (hsteps : Steps (StepOk P .any ops Q a w.drew vals rows) ops.toList)
    (hend : ∀ a' w', Below w.drew.heap.size w.drew w' → a'.defers = a.defers → (∀ (i : Nat) (o : Oper) (d : Nat), ops[i]? = some o → o.dst = some d → Known vals rows d (a'.eval (.tmp d)) w') → Q .normal a' w') : (Code.region id ops true).wp P Q a w := by
  refine wp_region_any hm (lin_go (w0 := w.drew) hok hsteps hend _ _ _ _ ?_ ⟨by simp, rfl, rfl, Below.refl _ _, fun _ _ => rfl, fun i o d ho hd hl => ?_⟩)
  · unfold unlisted
    exact Nat.le_trans (List.length_filter_le _ _) (by simp)
  · have hi : i < ops.size := (Array.getElem?_eq_some_iff.1 ho).1
    simp [Array.getD, hi] at hl
end
end Go.Proofs.Ytlcgkcmicklihaa.Wire
namespace Go.Proofs.Ytlcgkcmicklihaa.Wire
set_option linter.unusedVariables false
set_option linter.unusedSimpArgs false
open Go.RowKit Go.Proofs.YtlcgkcmicklihaaW.PrintWords Go.Proofs.YtlcgkcmicklihaaW.PrintLast Go.Proofs.YtlcgkcmicklihaaW.PrintMore
set_option maxRecDepth 100000 in
set_option maxHeartbeats 8000000 in
theorem delta_refL (y0 : Int) (y1 : Int) (y2 : Bool) (y3 : Int) (y4 : Int) (y5 : ByteArray) (y6 : Int) (y7 : List tEntry.T) (cs : List Value) (ok : Nat → Prop) (w : World) (hH : Holds w ok tDelta ((y0, y1), (y2, ((y3, y4), (y5, (y6, y7))))) cs) (hok : tDelta.cod.ok ((y0, y1), (y2, ((y3, y4), (y5, (y6, y7)))))) (hlen : (tDelta.cod.enc ((y0, y1), (y2, ((y3, y4), (y5, (y6, y7)))))).length ≤ 68719476736) :
    Calls Try.prog 16 #[.agg cs.toArray] w fun e w' => e = .returned (.string (mkb (tDelta.cod.enc ((y0, y1), (y2, ((y3, y4), (y5, (y6, y7)))))))) ∧ Below w.heap.size w w' := by
  obtain ⟨ca1, cb1, rfl, ha1, hb1⟩ := Holds.pair_cell hH
  obtain ⟨ca2, cb2, rfl, ha2, hb2⟩ := Holds.pair_cell ha1
  obtain rfl := Holds.int_cell ha2
  obtain rfl := Holds.int_cell hb2
  obtain ⟨ca3, cb3, rfl, ha3, hb3⟩ := Holds.pair_cell hb1
  obtain rfl := Holds.bool_cell ha3
  obtain ⟨ca4, cb4, rfl, ha4, hb4⟩ := Holds.pair_cell hb3
  obtain ⟨ca5, cb5, rfl, ha5, hb5⟩ := Holds.pair_cell ha4
  obtain rfl := Holds.int_cell ha5
  obtain rfl := Holds.int_cell hb5
  obtain ⟨ca6, cb6, rfl, ha6, hb6⟩ := Holds.pair_cell hb4
  obtain rfl := Holds.str_cell ha6
  obtain ⟨ca7, cb7, rfl, ha7, hb7⟩ := Holds.pair_cell hb6
  obtain rfl := Holds.int_cell ha7
  obtain ⟨A7, cap7, rfl, hh7⟩ := Holds.list_cell hb7
  clear ha1 ha2 hb2 hb1 ha3 hb3 ha4 ha5 hb5 hb4 ha6 hb6 ha7 hb7
  obtain ⟨R0, hR0⟩ : ∃ R, [y0, y1].flatMap num = R := ⟨_, rfl⟩
  obtain ⟨R1, hR1⟩ : ∃ R, cFlag.enc y2 = R := ⟨_, rfl⟩
  obtain ⟨R2, hR2⟩ : ∃ R, [y3, y4].flatMap num = R := ⟨_, rfl⟩
  obtain ⟨R3, hR3⟩ : ∃ R, cStr.enc y5 = R := ⟨_, rfl⟩
  obtain ⟨R4, hR4⟩ : ∃ R, [y6].flatMap num = R := ⟨_, rfl⟩
  obtain ⟨R5, hR5⟩ : ∃ R, (Ty.list tEntry).cod.enc y7 = R := ⟨_, rfl⟩
  obtain ⟨P1, hP1⟩ : ∃ P, R0 ++ R1 = P := ⟨_, rfl⟩
  obtain ⟨P2, hP2⟩ : ∃ P, P1 ++ R2 = P := ⟨_, rfl⟩
  obtain ⟨P3, hP3⟩ : ∃ P, P2 ++ R3 = P := ⟨_, rfl⟩
  obtain ⟨P4, hP4⟩ : ∃ P, P3 ++ R4 = P := ⟨_, rfl⟩
  obtain ⟨P5, hP5⟩ : ∃ P, P4 ++ R5 = P := ⟨_, rfl⟩
  have hE : tDelta.cod.enc ((y0, y1), (y2, ((y3, y4), (y5, (y6, y7))))) = P5 := by
    have h1 : tDelta.cod.enc ((y0, y1), (y2, ((y3, y4), (y5, (y6, y7))))) = ((num y0 ++ num y1) ++ (cFlag.enc y2 ++ ((num y3 ++ num y4) ++ (cStr.enc y5 ++ (num y6 ++ (Ty.list tEntry).cod.enc y7))))) := rfl
    rw [h1, ← hP5, ← hP4, ← hP3, ← hP2, ← hP1, ← hR0, ← hR1, ← hR2, ← hR3, ← hR4, ← hR5]
    simp only [List.append_assoc, List.flatMap_cons, List.flatMap_nil, List.append_nil]
  rw [hE] at hlen
  rw [hE]
  have hl5 : P4.length + R5.length ≤ 68719476736 := by rw [← List.length_append, hP5]; exact hlen
  have hl4 : P3.length + R4.length ≤ 68719476736 := by rw [← List.length_append, hP4]; omega
  have hl3 : P2.length + R3.length ≤ 68719476736 := by rw [← List.length_append, hP3]; omega
  have hl2 : P1.length + R2.length ≤ 68719476736 := by rw [← List.length_append, hP2]; omega
  have hl1 : R0.length + R1.length ≤ 68719476736 := by rw [← List.length_append, hP1]; omega
  have HF0 := Lib.hid (show ∀ n ∈ [y0, y1], Fits n from fits_cons hok.1.1 (fits_cons hok.1.2 (fits_nil)))
  have HF2 := Lib.hid (show ∀ n ∈ [y3, y4], Fits n from fits_cons hok.2.2.1.1 (fits_cons hok.2.2.1.2 (fits_nil)))
  have hs3 : y5.size ≤ 281474976710656 := str_size hR3 (by omega)
  have HF4 := Lib.hid (show ∀ n ∈ [y6], Fits n from fits_cons hok.2.2.2.2.1 (fits_nil))
  have HO5 := Lib.hid hok.2.2.2.2.2
  have HLn5 := Lib.hid (show ((Ty.list tEntry).cod.enc y7).length ≤ 68719476736 by rw [hR5]; omega)
  have hll5 : y7.length ≤ 9223372036854775807 := hok.2.2.2.2.2.1
  have sa1 : ¬ 9223372036854775807 < (mkb R0).size + (mkb R1).size := by simp only [mkb_size]; omega
  have sc1 : mkb R0 ++ mkb R1 = mkb P1 := by rw [mkb_append, hP1]
  have sa2 : ¬ 9223372036854775807 < (mkb P1).size + (mkb R2).size := by simp only [mkb_size]; omega
  have sc2 : mkb P1 ++ mkb R2 = mkb P2 := by rw [mkb_append, hP2]
  have sa3 : ¬ 9223372036854775807 < (mkb P2).size + (mkb R3).size := by simp only [mkb_size]; omega
  have sc3 : mkb P2 ++ mkb R3 = mkb P3 := by rw [mkb_append, hP3]
  have sa4 : ¬ 9223372036854775807 < (mkb P3).size + (mkb R4).size := by simp only [mkb_size]; omega
  have sc4 : mkb P3 ++ mkb R4 = mkb P4 := by rw [mkb_append, hP4]
  have sa5 : ¬ 9223372036854775807 < (mkb P4).size + (mkb R5).size := by simp only [mkb_size]; omega
  have sc5 : mkb P4 ++ mkb R5 = mkb P5 := by rw [mkb_append, hP5]
  obtain ⟨wb, hwb⟩ : ∃ wb, w.alloc (.cells #[.int .i64 y0, .int .i64 y1, .bool y2, .int .i64 y3, .int .i64 y4, .string y5, .int .i64 y6, .slice A7 y7.length cap7] 33) = wb := ⟨_, rfl⟩
  have hbb : Below w.heap.size w wb := by rw [← hwb]; exact (Below.refl _ _).alloc (Nat.le_refl _) _
  have q0 : wb.cell? ⟨w.heap.size, 0, none⟩ = some (.int .i64 y0) := by rw [← hwb]; exact (blk_cell (blk_new w _) 0).trans rfl
  have q1 : wb.cell? ⟨w.heap.size, 1, none⟩ = some (.int .i64 y1) := by rw [← hwb]; exact (blk_cell (blk_new w _) 1).trans rfl
  have q2 : wb.cell? ⟨w.heap.size, 2, none⟩ = some (.bool y2) := by rw [← hwb]; exact (blk_cell (blk_new w _) 2).trans rfl
  have q3 : wb.cell? ⟨w.heap.size, 3, none⟩ = some (.int .i64 y3) := by rw [← hwb]; exact (blk_cell (blk_new w _) 3).trans rfl
  have q4 : wb.cell? ⟨w.heap.size, 4, none⟩ = some (.int .i64 y4) := by rw [← hwb]; exact (blk_cell (blk_new w _) 4).trans rfl
  have q5 : wb.cell? ⟨w.heap.size, 5, none⟩ = some (.string y5) := by rw [← hwb]; exact (blk_cell (blk_new w _) 5).trans rfl
  have q6 : wb.cell? ⟨w.heap.size, 6, none⟩ = some (.int .i64 y6) := by rw [← hwb]; exact (blk_cell (blk_new w _) 6).trans rfl
  have q7 : wb.cell? ⟨w.heap.size, 7, none⟩ = some (.slice A7 y7.length cap7) := by rw [← hwb]; exact (blk_cell (blk_new w _) 7).trans rfl
  have hNb : w.heap.size < wb.heap.size := by rw [← hwb]; simp
  have HH5 := Lib.hid (hh7.below hbb)
  have HBB := Lib.hid hbb
  have HR0 := Lib.hid hR0
  have HR1 := Lib.hid hR1
  have HR2 := Lib.hid hR2
  have HR3 := Lib.hid hR3
  have HR4 := Lib.hid hR4
  have HR5 := Lib.hid hR5
  clear hE hlen hok hbb hR0 hR1 hR2 hR3 hR4 hR5 hP1 hP2 hP3 hP4 hP5 hh7
  show Calls Try.prog 16 #[.agg #[.int .i64 y0, .int .i64 y1, .bool y2, .int .i64 y3, .int .i64 y4, .string y5, .int .i64 y6, .slice A7 y7.length cap7]] w _
  go_enter Try.func16, Try.ntmps16
  go_wp2_with fail
  clear hwb
  have Q0 := Lib.hid q0
  have Q1 := Lib.hid q1
  have Q2 := Lib.hid q2
  have Q3 := Lib.hid q3
  have Q4 := Lib.hid q4
  have Q5 := Lib.hid q5
  have Q6 := Lib.hid q6
  have Q7 := Lib.hid q7
  have SA1 := Lib.hid sa1
  have SC1 := Lib.hid sc1
  have SA2 := Lib.hid sa2
  have SC2 := Lib.hid sc2
  have SA3 := Lib.hid sa3
  have SC3 := Lib.hid sc3
  have SA4 := Lib.hid sa4
  have SC4 := Lib.hid sc4
  have SA5 := Lib.hid sa5
  have SC5 := Lib.hid sc5
  have HSZ3 := Lib.hid hs3
  clear q0 q1 q2 q3 q4 q5 q6 q7 sa1 sc1 sa2 sc2 sa3 sc3 sa4 sc4 sa5 sc5 hs3
  clear hl1 hl2 hl3 hl4 hl5
  refine wp_region_lin (vals := [none, none, some (.string (mkb P5)), some (.pointer (some ⟨w.heap.size, 0, none⟩)), some (.int .i64 y0), some (.pointer (some ⟨w.heap.size, 1, none⟩)), some (.int .i64 y1), none, some (.string (mkb R0)), some (.pointer (some ⟨w.heap.size, 2, none⟩)), some (.bool y2), some (.string (mkb R1)), some (.string (mkb P1)), some (.pointer (some ⟨w.heap.size, 3, none⟩)), some (.int .i64 y3), some (.pointer (some ⟨w.heap.size, 4, none⟩)), some (.int .i64 y4), none, some (.string (mkb R2)), some (.string (mkb P2)), some (.pointer (some ⟨w.heap.size, 5, none⟩)), some (.string y5), some (.string (mkb R3)), some (.string (mkb P3)), some (.pointer (some ⟨w.heap.size, 6, none⟩)), some (.int .i64 y6), none, some (.string (mkb R4)), some (.string (mkb P4)), some (.pointer (some ⟨w.heap.size, 7, none⟩)), some (.slice A7 y7.length cap7), some (.string (mkb R5)), some (.string (mkb P5))]) (rows := [none, none, none, none, none, none, none, some [y0, y1], none, none, none, none, none, none, none, none, none, some [y3, y4], none, none, none, none, none, none, none, none, some [y6]]) (by kernel_rfl) (by kernel_rfl) ?_ ?_
  · skip
    refine Steps.cons (fun a W hb hf hG K hK => ?_) ?_
    · have hb' : Below wb.heap.size wb W := ((Below.refl _ _).drew).trans hb
      have e1 : a.tmps[1]?.getD undef = .pointer (some ⟨w.heap.size, 0, none⟩) := tmp_of ((hf.out 1 (by kernel_rfl)).trans rfl)
      go_simp
      exact hK.out _ _ (Below.refl _ _) (yield_val rfl rfl)
    refine Steps.cons (fun a W hb hf hG K hK => ?_) ?_
    · have hb' : Below wb.heap.size wb W := ((Below.refl _ _).drew).trans hb
      have e3 := tmp_of (known_val (hG.out 3 (by kernel_rfl)) (u := .pointer (some ⟨w.heap.size, 0, none⟩)) rfl)
      have c0 := keep1 Q0.out hb'
      go_simp
      exact hK.out _ _ (Below.refl _ _) (yield_val rfl rfl)
    refine Steps.cons (fun a W hb hf hG K hK => ?_) ?_
    · have hb' : Below wb.heap.size wb W := ((Below.refl _ _).drew).trans hb
      have e1 : a.tmps[1]?.getD undef = .pointer (some ⟨w.heap.size, 0, none⟩) := tmp_of ((hf.out 1 (by kernel_rfl)).trans rfl)
      go_simp
      exact hK.out _ _ (Below.refl _ _) (yield_val rfl rfl)
    refine Steps.cons (fun a W hb hf hG K hK => ?_) ?_
    · have hb' : Below wb.heap.size wb W := ((Below.refl _ _).drew).trans hb
      have e5 := tmp_of (known_val (hG.out 5 (by kernel_rfl)) (u := .pointer (some ⟨w.heap.size, 1, none⟩)) rfl)
      have c1 := keep1 Q1.out hb'
      go_simp
      exact hK.out _ _ (Below.refl _ _) (yield_val rfl rfl)
    refine Steps.cons (fun a W hb hf hG K hK => ?_) ?_
    · have hb' : Below wb.heap.size wb W := ((Below.refl _ _).drew).trans hb
      have e4 := tmp_of (known_val (hG.out 4 (by kernel_rfl)) (u := .int .i64 y0) rfl)
      have e6 := tmp_of (known_val (hG.out 6 (by kernel_rfl)) (u := .int .i64 y1) rfl)
      go_simp
      exact hK.out _ _ ((Below.refl _ _).alloc (Nat.le_refl _) _) (yield_row rfl rfl ⟨_, _, rfl, rowB (by first | rfl | simp) rfl⟩)
    refine Steps.cons (fun a W hb hf hG K hK => ?_) ?_
    · have hb' : Below wb.heap.size wb W := ((Below.refl _ _).drew).trans hb
      obtain ⟨qr, cr, er, hrow⟩ := (hG.out 7 (by kernel_rfl)).2 [y0, y1] rfl
      have e7 := tmp_of er
      simp only [List.length_cons, List.length_nil] at e7
      go_simp
      refine (nums_at [y0, y1] R0 HR0.out 2 rfl _ _ _ (by decide) HF0.out hrow).mono ?_
      rintro e W1 ⟨rfl, hr⟩
      exact hK.out _ _ hr (yield_val rfl rfl)
    refine Steps.cons (fun a W hb hf hG K hK => ?_) ?_
    · have hb' : Below wb.heap.size wb W := ((Below.refl _ _).drew).trans hb
      have e1 : a.tmps[1]?.getD undef = .pointer (some ⟨w.heap.size, 0, none⟩) := tmp_of ((hf.out 1 (by kernel_rfl)).trans rfl)
      go_simp
      exact hK.out _ _ (Below.refl _ _) (yield_val rfl rfl)
    refine Steps.cons (fun a W hb hf hG K hK => ?_) ?_
    · have hb' : Below wb.heap.size wb W := ((Below.refl _ _).drew).trans hb
      have e9 := tmp_of (known_val (hG.out 9 (by kernel_rfl)) (u := .pointer (some ⟨w.heap.size, 2, none⟩)) rfl)
      have c2 := keep1 Q2.out hb'
      go_simp
      exact hK.out _ _ (Below.refl _ _) (yield_val rfl rfl)
    refine Steps.cons (fun a W hb hf hG K hK => ?_) ?_
    · have hb' : Below wb.heap.size wb W := ((Below.refl _ _).drew).trans hb
      have e10 := tmp_of (known_val (hG.out 10 (by kernel_rfl)) (u := .bool y2) rfl)
      go_simp
      refine (flag_ref' y2 R1 HR1.out _).mono ?_
      rintro e W1 ⟨rfl, hr⟩
      exact hK.out _ _ hr (yield_val rfl rfl)
    refine Steps.cons (fun a W hb hf hG K hK => ?_) ?_
    · have hb' : Below wb.heap.size wb W := ((Below.refl _ _).drew).trans hb
      have e8 := tmp_of (known_val (hG.out 8 (by kernel_rfl)) (u := .string (mkb R0)) rfl)
      have e11 := tmp_of (known_val (hG.out 11 (by kernel_rfl)) (u := .string (mkb R1)) rfl)
      have sa := SA1.out
      have sc := SC1.out
      go_simp
      exact hK.out _ _ (Below.refl _ _) (yield_val rfl rfl)
    refine Steps.cons (fun a W hb hf hG K hK => ?_) ?_
    · have hb' : Below wb.heap.size wb W := ((Below.refl _ _).drew).trans hb
      have e1 : a.tmps[1]?.getD undef = .pointer (some ⟨w.heap.size, 0, none⟩) := tmp_of ((hf.out 1 (by kernel_rfl)).trans rfl)
      go_simp
      exact hK.out _ _ (Below.refl _ _) (yield_val rfl rfl)
    refine Steps.cons (fun a W hb hf hG K hK => ?_) ?_
    · have hb' : Below wb.heap.size wb W := ((Below.refl _ _).drew).trans hb
      have e13 := tmp_of (known_val (hG.out 13 (by kernel_rfl)) (u := .pointer (some ⟨w.heap.size, 3, none⟩)) rfl)
      have c3 := keep1 Q3.out hb'
      go_simp
      exact hK.out _ _ (Below.refl _ _) (yield_val rfl rfl)
    refine Steps.cons (fun a W hb hf hG K hK => ?_) ?_
    · have hb' : Below wb.heap.size wb W := ((Below.refl _ _).drew).trans hb
      have e1 : a.tmps[1]?.getD undef = .pointer (some ⟨w.heap.size, 0, none⟩) := tmp_of ((hf.out 1 (by kernel_rfl)).trans rfl)
      go_simp
      exact hK.out _ _ (Below.refl _ _) (yield_val rfl rfl)
    refine Steps.cons (fun a W hb hf hG K hK => ?_) ?_
    · have hb' : Below wb.heap.size wb W := ((Below.refl _ _).drew).trans hb
      have e15 := tmp_of (known_val (hG.out 15 (by kernel_rfl)) (u := .pointer (some ⟨w.heap.size, 4, none⟩)) rfl)
      have c4 := keep1 Q4.out hb'
      go_simp
      exact hK.out _ _ (Below.refl _ _) (yield_val rfl rfl)
    refine Steps.cons (fun a W hb hf hG K hK => ?_) ?_
    · have hb' : Below wb.heap.size wb W := ((Below.refl _ _).drew).trans hb
      have e14 := tmp_of (known_val (hG.out 14 (by kernel_rfl)) (u := .int .i64 y3) rfl)
      have e16 := tmp_of (known_val (hG.out 16 (by kernel_rfl)) (u := .int .i64 y4) rfl)
      go_simp
      exact hK.out _ _ ((Below.refl _ _).alloc (Nat.le_refl _) _) (yield_row rfl rfl ⟨_, _, rfl, rowB (by first | rfl | simp) rfl⟩)
    refine Steps.cons (fun a W hb hf hG K hK => ?_) ?_
    · have hb' : Below wb.heap.size wb W := ((Below.refl _ _).drew).trans hb
      obtain ⟨qr, cr, er, hrow⟩ := (hG.out 17 (by kernel_rfl)).2 [y3, y4] rfl
      have e17 := tmp_of er
      simp only [List.length_cons, List.length_nil] at e17
      go_simp
      refine (nums_at [y3, y4] R2 HR2.out 2 rfl _ _ _ (by decide) HF2.out hrow).mono ?_
      rintro e W1 ⟨rfl, hr⟩
      exact hK.out _ _ hr (yield_val rfl rfl)
    refine Steps.cons (fun a W hb hf hG K hK => ?_) ?_
    · have hb' : Below wb.heap.size wb W := ((Below.refl _ _).drew).trans hb
      have e12 := tmp_of (known_val (hG.out 12 (by kernel_rfl)) (u := .string (mkb P1)) rfl)
      have e18 := tmp_of (known_val (hG.out 18 (by kernel_rfl)) (u := .string (mkb R2)) rfl)
      have sa := SA2.out
      have sc := SC2.out
      go_simp
      exact hK.out _ _ (Below.refl _ _) (yield_val rfl rfl)
    refine Steps.cons (fun a W hb hf hG K hK => ?_) ?_
    · have hb' : Below wb.heap.size wb W := ((Below.refl _ _).drew).trans hb
      have e1 : a.tmps[1]?.getD undef = .pointer (some ⟨w.heap.size, 0, none⟩) := tmp_of ((hf.out 1 (by kernel_rfl)).trans rfl)
      go_simp
      exact hK.out _ _ (Below.refl _ _) (yield_val rfl rfl)
    refine Steps.cons (fun a W hb hf hG K hK => ?_) ?_
    · have hb' : Below wb.heap.size wb W := ((Below.refl _ _).drew).trans hb
      have e20 := tmp_of (known_val (hG.out 20 (by kernel_rfl)) (u := .pointer (some ⟨w.heap.size, 5, none⟩)) rfl)
      have c5 := keep1 Q5.out hb'
      go_simp
      exact hK.out _ _ (Below.refl _ _) (yield_val rfl rfl)
    refine Steps.cons (fun a W hb hf hG K hK => ?_) ?_
    · have hb' : Below wb.heap.size wb W := ((Below.refl _ _).drew).trans hb
      have e21 := tmp_of (known_val (hG.out 21 (by kernel_rfl)) (u := .string y5) rfl)
      go_simp
      refine (text_ref' y5 R3 HR3.out _ HSZ3.out).mono ?_
      rintro e W1 ⟨rfl, hr⟩
      exact hK.out _ _ hr (yield_val rfl rfl)
    refine Steps.cons (fun a W hb hf hG K hK => ?_) ?_
    · have hb' : Below wb.heap.size wb W := ((Below.refl _ _).drew).trans hb
      have e19 := tmp_of (known_val (hG.out 19 (by kernel_rfl)) (u := .string (mkb P2)) rfl)
      have e22 := tmp_of (known_val (hG.out 22 (by kernel_rfl)) (u := .string (mkb R3)) rfl)
      have sa := SA3.out
      have sc := SC3.out
      go_simp
      exact hK.out _ _ (Below.refl _ _) (yield_val rfl rfl)
    refine Steps.cons (fun a W hb hf hG K hK => ?_) ?_
    · have hb' : Below wb.heap.size wb W := ((Below.refl _ _).drew).trans hb
      have e1 : a.tmps[1]?.getD undef = .pointer (some ⟨w.heap.size, 0, none⟩) := tmp_of ((hf.out 1 (by kernel_rfl)).trans rfl)
      go_simp
      exact hK.out _ _ (Below.refl _ _) (yield_val rfl rfl)
    refine Steps.cons (fun a W hb hf hG K hK => ?_) ?_
    · have hb' : Below wb.heap.size wb W := ((Below.refl _ _).drew).trans hb
      have e24 := tmp_of (known_val (hG.out 24 (by kernel_rfl)) (u := .pointer (some ⟨w.heap.size, 6, none⟩)) rfl)
      have c6 := keep1 Q6.out hb'
      go_simp
      exact hK.out _ _ (Below.refl _ _) (yield_val rfl rfl)
    refine Steps.cons (fun a W hb hf hG K hK => ?_) ?_
    · have hb' : Below wb.heap.size wb W := ((Below.refl _ _).drew).trans hb
      have e25 := tmp_of (known_val (hG.out 25 (by kernel_rfl)) (u := .int .i64 y6) rfl)
      go_simp
      exact hK.out _ _ ((Below.refl _ _).alloc (Nat.le_refl _) _) (yield_row rfl rfl ⟨_, _, rfl, rowB (by first | rfl | simp) rfl⟩)
    refine Steps.cons (fun a W hb hf hG K hK => ?_) ?_
    · have hb' : Below wb.heap.size wb W := ((Below.refl _ _).drew).trans hb
      obtain ⟨qr, cr, er, hrow⟩ := (hG.out 26 (by kernel_rfl)).2 [y6] rfl
      have e26 := tmp_of er
      simp only [List.length_cons, List.length_nil] at e26
      go_simp
      refine (nums_at [y6] R4 HR4.out 1 rfl _ _ _ (by decide) HF4.out hrow).mono ?_
      rintro e W1 ⟨rfl, hr⟩
      exact hK.out _ _ hr (yield_val rfl rfl)
    refine Steps.cons (fun a W hb hf hG K hK => ?_) ?_
    · have hb' : Below wb.heap.size wb W := ((Below.refl _ _).drew).trans hb
      have e23 := tmp_of (known_val (hG.out 23 (by kernel_rfl)) (u := .string (mkb P3)) rfl)
      have e27 := tmp_of (known_val (hG.out 27 (by kernel_rfl)) (u := .string (mkb R4)) rfl)
      have sa := SA4.out
      have sc := SC4.out
      go_simp
      exact hK.out _ _ (Below.refl _ _) (yield_val rfl rfl)
    refine Steps.cons (fun a W hb hf hG K hK => ?_) ?_
    · have hb' : Below wb.heap.size wb W := ((Below.refl _ _).drew).trans hb
      have e1 : a.tmps[1]?.getD undef = .pointer (some ⟨w.heap.size, 0, none⟩) := tmp_of ((hf.out 1 (by kernel_rfl)).trans rfl)
      go_simp
      exact hK.out _ _ (Below.refl _ _) (yield_val rfl rfl)
    refine Steps.cons (fun a W hb hf hG K hK => ?_) ?_
    · have hb' : Below wb.heap.size wb W := ((Below.refl _ _).drew).trans hb
      have e29 := tmp_of (known_val (hG.out 29 (by kernel_rfl)) (u := .pointer (some ⟨w.heap.size, 7, none⟩)) rfl)
      have c7 := keep1 Q7.out hb'
      go_simp
      exact hK.out _ _ (Below.refl _ _) (yield_val rfl rfl)
    refine Steps.cons (fun a W hb hf hG K hK => ?_) ?_
    · have hb' : Below wb.heap.size wb W := ((Below.refl _ _).drew).trans hb
      have e30 := tmp_of (known_val (hG.out 30 (by kernel_rfl)) (u := .slice A7 y7.length cap7) rfl)
      go_simp
      refine (list_ref' entries_all y7 _ _ _ R5 HR5.out _ (HH5.out.below hb') HO5.out HLn5.out).mono ?_
      rintro e W1 ⟨rfl, hr⟩
      exact hK.out _ _ hr (yield_val rfl rfl)
    refine Steps.cons (fun a W hb hf hG K hK => ?_) ?_
    · have hb' : Below wb.heap.size wb W := ((Below.refl _ _).drew).trans hb
      have e28 := tmp_of (known_val (hG.out 28 (by kernel_rfl)) (u := .string (mkb P4)) rfl)
      have e31 := tmp_of (known_val (hG.out 31 (by kernel_rfl)) (u := .string (mkb R5)) rfl)
      have sa := SA5.out
      have sc := SC5.out
      go_simp
      exact hK.out _ _ (Below.refl _ _) (yield_val rfl rfl)
    refine Steps.cons (fun a W hb hf hG K hK => ?_) ?_
    · have hb' : Below wb.heap.size wb W := ((Below.refl _ _).drew).trans hb
      have e32 := tmp_of (known_val (hG.out 32 (by kernel_rfl)) (u := .string (mkb P5)) rfl)
      go_simp
      exact hK.out _ _ (Below.refl _ _) (yield_val rfl rfl)
    exact trivial
  · intro a' W hb hd hk
    have e2 := tmp_of (known_val (hk 30 _ 2 rfl rfl) (u := .string (mkb P5)) rfl)
    have hb' : Below wb.heap.size wb W := ((Below.refl _ _).drew).trans hb
    clear hk hb
    have HB9 := Lib.hid hb'
    clear hb'
    go_wp2_with fail
    refine bodyPost_ret (v := .string (mkb P5)) (by simp [results, Try.results16, e2]) hd ⟨rfl, below_then' HBB.out HB9.out⟩
theorem delta_ref (x : tDelta.T) (cs : List Value) (ok : Nat → Prop) (w : World) (hH : Holds w ok tDelta x cs) (hok : tDelta.cod.ok x) (hlen : (tDelta.cod.enc x).length ≤ 68719476736) :
    Calls Try.prog 16 #[.agg cs.toArray] w fun e w' => e = .returned (.string (mkb (tDelta.cod.enc x))) ∧ Below w.heap.size w w' := by
  obtain ⟨⟨y0, y1⟩, ⟨y2, ⟨⟨y3, y4⟩, ⟨y5, ⟨y6, y7⟩⟩⟩⟩⟩ := x
  exact delta_refL y0 y1 y2 y3 y4 y5 y6 y7 cs ok w hH hok hlen
end Go.Proofs.Ytlcgkcmicklihaa.Wire
namespace Go.Proofs.Ytlcgkcmicklihaa.Wire
set_option linter.unusedVariables false
set_option linter.unusedSimpArgs false
open Go.RowKit Go.Proofs.YtlcgkcmicklihaaW.PrintWords Go.Proofs.YtlcgkcmicklihaaW.PrintLast Go.Proofs.YtlcgkcmicklihaaW.PrintMore
set_option maxRecDepth 100000 in
set_option maxHeartbeats 8000000 in
theorem command_refL (y0 : Int) (y1 : Int) (y2 : Int) (y3 : Int) (y4 : Int) (y5 : Int) (y6 : Int) (y7 : Int) (y8 : List tReading.T) (y9 : List tWrite.T) (y10 : Int) (y11 : Int) (y12 : Int) (y13 : Int) (y14 : Int) (y15 : Int) (y16 : ByteArray) (y17 : ByteArray) (y18 : ByteArray) (y19 : ByteArray) (y20 : Bool) (y21 : Int) (y22 : Int) (y23 : Int) (y24 : ByteArray) (y25 : List tColumn.T) (y26 : Int) (y27 : Int) (y28 : ByteArray) (y29 : Int) (cs : List Value) (ok : Nat → Prop) (w : World) (hH : Holds w ok tCommand (y0, ((y1, (y2, y3)), ((y4, (y5, y6)), (y7, (y8, (y9, ((y10, (y11, (y12, (y13, y14)))), ((y15, ((y16, (y17, (y18, y19))), (y20, (y21, ((y22, (y23, y24)), y25))))), ((y26, y27), (y28, y29)))))))))) cs) (hok : tCommand.cod.ok (y0, ((y1, (y2, y3)), ((y4, (y5, y6)), (y7, (y8, (y9, ((y10, (y11, (y12, (y13, y14)))), ((y15, ((y16, (y17, (y18, y19))), (y20, (y21, ((y22, (y23, y24)), y25))))), ((y26, y27), (y28, y29))))))))))) (hlen : (tCommand.cod.enc (y0, ((y1, (y2, y3)), ((y4, (y5, y6)), (y7, (y8, (y9, ((y10, (y11, (y12, (y13, y14)))), ((y15, ((y16, (y17, (y18, y19))), (y20, (y21, ((y22, (y23, y24)), y25))))), ((y26, y27), (y28, y29))))))))))).length ≤ 68719476736) :
    Calls Try.prog 22 #[.agg cs.toArray] w fun e w' => e = .returned (.string (mkb (tCommand.cod.enc (y0, ((y1, (y2, y3)), ((y4, (y5, y6)), (y7, (y8, (y9, ((y10, (y11, (y12, (y13, y14)))), ((y15, ((y16, (y17, (y18, y19))), (y20, (y21, ((y22, (y23, y24)), y25))))), ((y26, y27), (y28, y29))))))))))))) ∧ Below w.heap.size w w' := by
  obtain ⟨ca1, cb1, rfl, ha1, hb1⟩ := Holds.pair_cell hH
  obtain rfl := Holds.int_cell ha1
  obtain ⟨ca2, cb2, rfl, ha2, hb2⟩ := Holds.pair_cell hb1
  have hsub1 := ha2
  obtain ⟨ca3, cb3, rfl, ha3, hb3⟩ := Holds.pair_cell ha2
  obtain rfl := Holds.int_cell ha3
  obtain ⟨ca4, cb4, rfl, ha4, hb4⟩ := Holds.pair_cell hb3
  obtain rfl := Holds.int_cell ha4
  obtain rfl := Holds.int_cell hb4
  obtain ⟨ca5, cb5, rfl, ha5, hb5⟩ := Holds.pair_cell hb2
  have hsub2 := ha5
  obtain ⟨ca6, cb6, rfl, ha6, hb6⟩ := Holds.pair_cell ha5
  obtain rfl := Holds.int_cell ha6
  obtain ⟨ca7, cb7, rfl, ha7, hb7⟩ := Holds.pair_cell hb6
  obtain rfl := Holds.int_cell ha7
  obtain rfl := Holds.int_cell hb7
  obtain ⟨ca8, cb8, rfl, ha8, hb8⟩ := Holds.pair_cell hb5
  obtain rfl := Holds.int_cell ha8
  obtain ⟨ca9, cb9, rfl, ha9, hb9⟩ := Holds.pair_cell hb8
  obtain ⟨A8, cap8, rfl, hh8⟩ := Holds.list_cell ha9
  obtain ⟨ca10, cb10, rfl, ha10, hb10⟩ := Holds.pair_cell hb9
  obtain ⟨A9, cap9, rfl, hh9⟩ := Holds.list_cell ha10
  obtain ⟨ca11, cb11, rfl, ha11, hb11⟩ := Holds.pair_cell hb10
  obtain ⟨ca12, cb12, rfl, ha12, hb12⟩ := Holds.pair_cell ha11
  obtain rfl := Holds.int_cell ha12
  obtain ⟨ca13, cb13, rfl, ha13, hb13⟩ := Holds.pair_cell hb12
  obtain rfl := Holds.int_cell ha13
  obtain ⟨ca14, cb14, rfl, ha14, hb14⟩ := Holds.pair_cell hb13
  obtain rfl := Holds.int_cell ha14
  obtain ⟨ca15, cb15, rfl, ha15, hb15⟩ := Holds.pair_cell hb14
  obtain rfl := Holds.int_cell ha15
  obtain rfl := Holds.int_cell hb15
  obtain ⟨ca16, cb16, rfl, ha16, hb16⟩ := Holds.pair_cell hb11
  have hsub7 := ha16
  obtain ⟨ca17, cb17, rfl, ha17, hb17⟩ := Holds.pair_cell ha16
  obtain rfl := Holds.int_cell ha17
  obtain ⟨ca18, cb18, rfl, ha18, hb18⟩ := Holds.pair_cell hb17
  obtain ⟨ca19, cb19, rfl, ha19, hb19⟩ := Holds.pair_cell ha18
  obtain rfl := Holds.str_cell ha19
  obtain ⟨ca20, cb20, rfl, ha20, hb20⟩ := Holds.pair_cell hb19
  obtain rfl := Holds.str_cell ha20
  obtain ⟨ca21, cb21, rfl, ha21, hb21⟩ := Holds.pair_cell hb20
  obtain rfl := Holds.str_cell ha21
  obtain rfl := Holds.str_cell hb21
  obtain ⟨ca22, cb22, rfl, ha22, hb22⟩ := Holds.pair_cell hb18
  obtain rfl := Holds.bool_cell ha22
  obtain ⟨ca23, cb23, rfl, ha23, hb23⟩ := Holds.pair_cell hb22
  obtain rfl := Holds.int_cell ha23
  obtain ⟨ca24, cb24, rfl, ha24, hb24⟩ := Holds.pair_cell hb23
  obtain ⟨ca25, cb25, rfl, ha25, hb25⟩ := Holds.pair_cell ha24
  obtain rfl := Holds.int_cell ha25
  obtain ⟨ca26, cb26, rfl, ha26, hb26⟩ := Holds.pair_cell hb25
  obtain rfl := Holds.int_cell ha26
  obtain rfl := Holds.str_cell hb26
  obtain ⟨A25, cap25, rfl, hh25⟩ := Holds.list_cell hb24
  obtain ⟨ca27, cb27, rfl, ha27, hb27⟩ := Holds.pair_cell hb16
  obtain ⟨ca28, cb28, rfl, ha28, hb28⟩ := Holds.pair_cell ha27
  obtain rfl := Holds.int_cell ha28
  obtain rfl := Holds.int_cell hb28
  obtain ⟨ca29, cb29, rfl, ha29, hb29⟩ := Holds.pair_cell hb27
  obtain rfl := Holds.str_cell ha29
  obtain rfl := Holds.int_cell hb29
  clear ha1 hb1 ha2 ha3 hb3 ha4 hb4 hb2 ha5 ha6 hb6 ha7 hb7 hb5 ha8 hb8 ha9 hb9 ha10 hb10 ha11 ha12 hb12 ha13 hb13 ha14 hb14 ha15 hb15 hb11 ha16 ha17 hb17 ha18 ha19 hb19 ha20 hb20 ha21 hb21 hb18 ha22 hb22 ha23 hb23 ha24 ha25 hb25 ha26 hb26 hb24 hb16 ha27 ha28 hb28 hb27 ha29 hb29
  obtain ⟨R0, hR0⟩ : ∃ R, num y0 = R := ⟨_, rfl⟩
  obtain ⟨R1, hR1⟩ : ∃ R, tTid.cod.enc (y1, (y2, y3)) = R := ⟨_, rfl⟩
  obtain ⟨R2, hR2⟩ : ∃ R, tTid.cod.enc (y4, (y5, y6)) = R := ⟨_, rfl⟩
  obtain ⟨R3, hR3⟩ : ∃ R, num y7 = R := ⟨_, rfl⟩
  obtain ⟨R4, hR4⟩ : ∃ R, (Ty.list tReading).cod.enc y8 = R := ⟨_, rfl⟩
  obtain ⟨R5, hR5⟩ : ∃ R, (Ty.list tWrite).cod.enc y9 = R := ⟨_, rfl⟩
  obtain ⟨R6, hR6⟩ : ∃ R, [y10, y11, y12, y13, y14].flatMap num = R := ⟨_, rfl⟩
  obtain ⟨R7, hR7⟩ : ∃ R, tDdl.cod.enc (y15, ((y16, (y17, (y18, y19))), (y20, (y21, ((y22, (y23, y24)), y25))))) = R := ⟨_, rfl⟩
  obtain ⟨R8, hR8⟩ : ∃ R, [y26, y27].flatMap num = R := ⟨_, rfl⟩
  obtain ⟨R9, hR9⟩ : ∃ R, cStr.enc y28 = R := ⟨_, rfl⟩
  obtain ⟨R10, hR10⟩ : ∃ R, num y29 = R := ⟨_, rfl⟩
  obtain ⟨P1, hP1⟩ : ∃ P, R0 ++ R1 = P := ⟨_, rfl⟩
  obtain ⟨P2, hP2⟩ : ∃ P, P1 ++ R2 = P := ⟨_, rfl⟩
  obtain ⟨P3, hP3⟩ : ∃ P, P2 ++ R3 = P := ⟨_, rfl⟩
  obtain ⟨P4, hP4⟩ : ∃ P, P3 ++ R4 = P := ⟨_, rfl⟩
  obtain ⟨P5, hP5⟩ : ∃ P, P4 ++ R5 = P := ⟨_, rfl⟩
  obtain ⟨P6, hP6⟩ : ∃ P, P5 ++ R6 = P := ⟨_, rfl⟩
  obtain ⟨P7, hP7⟩ : ∃ P, P6 ++ R7 = P := ⟨_, rfl⟩
  obtain ⟨P8, hP8⟩ : ∃ P, P7 ++ R8 = P := ⟨_, rfl⟩
  obtain ⟨P9, hP9⟩ : ∃ P, P8 ++ R9 = P := ⟨_, rfl⟩
  obtain ⟨P10, hP10⟩ : ∃ P, P9 ++ R10 = P := ⟨_, rfl⟩
  have hE : tCommand.cod.enc (y0, ((y1, (y2, y3)), ((y4, (y5, y6)), (y7, (y8, (y9, ((y10, (y11, (y12, (y13, y14)))), ((y15, ((y16, (y17, (y18, y19))), (y20, (y21, ((y22, (y23, y24)), y25))))), ((y26, y27), (y28, y29)))))))))) = P10 := by
    have h1 : tCommand.cod.enc (y0, ((y1, (y2, y3)), ((y4, (y5, y6)), (y7, (y8, (y9, ((y10, (y11, (y12, (y13, y14)))), ((y15, ((y16, (y17, (y18, y19))), (y20, (y21, ((y22, (y23, y24)), y25))))), ((y26, y27), (y28, y29)))))))))) = (num y0 ++ ((num y1 ++ (num y2 ++ num y3)) ++ ((num y4 ++ (num y5 ++ num y6)) ++ (num y7 ++ ((Ty.list tReading).cod.enc y8 ++ ((Ty.list tWrite).cod.enc y9 ++ ((num y10 ++ (num y11 ++ (num y12 ++ (num y13 ++ num y14)))) ++ ((num y15 ++ ((cStr.enc y16 ++ (cStr.enc y17 ++ (cStr.enc y18 ++ cStr.enc y19))) ++ (cFlag.enc y20 ++ (num y21 ++ ((num y22 ++ (num y23 ++ cStr.enc y24)) ++ (Ty.list tColumn).cod.enc y25))))) ++ ((num y26 ++ num y27) ++ (cStr.enc y28 ++ num y29)))))))))) := rfl
    rw [h1, ← hP10, ← hP9, ← hP8, ← hP7, ← hP6, ← hP5, ← hP4, ← hP3, ← hP2, ← hP1, ← hR0, ← hR1, ← hR2, ← hR3, ← hR4, ← hR5, ← hR6, ← hR7, ← hR8, ← hR9, ← hR10]
    have h11 : tTid.cod.enc (y1, (y2, y3)) = (num y1 ++ (num y2 ++ num y3)) := rfl
    have h12 : tTid.cod.enc (y4, (y5, y6)) = (num y4 ++ (num y5 ++ num y6)) := rfl
    have h17 : tDdl.cod.enc (y15, ((y16, (y17, (y18, y19))), (y20, (y21, ((y22, (y23, y24)), y25))))) = (num y15 ++ ((cStr.enc y16 ++ (cStr.enc y17 ++ (cStr.enc y18 ++ cStr.enc y19))) ++ (cFlag.enc y20 ++ (num y21 ++ ((num y22 ++ (num y23 ++ cStr.enc y24)) ++ (Ty.list tColumn).cod.enc y25))))) := rfl
    rw [h11, h12, h17]
    simp only [List.append_assoc, List.flatMap_cons, List.flatMap_nil, List.append_nil]
  rw [hE] at hlen
  rw [hE]
  have hl10 : P9.length + R10.length ≤ 68719476736 := by rw [← List.length_append, hP10]; exact hlen
  have hl9 : P8.length + R9.length ≤ 68719476736 := by rw [← List.length_append, hP9]; omega
  have hl8 : P7.length + R8.length ≤ 68719476736 := by rw [← List.length_append, hP8]; omega
  have hl7 : P6.length + R7.length ≤ 68719476736 := by rw [← List.length_append, hP7]; omega
  have hl6 : P5.length + R6.length ≤ 68719476736 := by rw [← List.length_append, hP6]; omega
  have hl5 : P4.length + R5.length ≤ 68719476736 := by rw [← List.length_append, hP5]; omega
  have hl4 : P3.length + R4.length ≤ 68719476736 := by rw [← List.length_append, hP4]; omega
  have hl3 : P2.length + R3.length ≤ 68719476736 := by rw [← List.length_append, hP3]; omega
  have hl2 : P1.length + R2.length ≤ 68719476736 := by rw [← List.length_append, hP2]; omega
  have hl1 : R0.length + R1.length ≤ 68719476736 := by rw [← List.length_append, hP1]; omega
  have HF0 := Lib.hid (show Fits y0 from hok.1)
  have HO1 := Lib.hid (show tTid.cod.ok (y1, (y2, y3)) from hok.2.1)
  have HLn1 := Lib.hid (show (tTid.cod.enc (y1, (y2, y3))).length ≤ 68719476736 by rw [hR1]; omega)
  have HO2 := Lib.hid (show tTid.cod.ok (y4, (y5, y6)) from hok.2.2.1)
  have HLn2 := Lib.hid (show (tTid.cod.enc (y4, (y5, y6))).length ≤ 68719476736 by rw [hR2]; omega)
  have HF3 := Lib.hid (show Fits y7 from hok.2.2.2.1)
  have HO4 := Lib.hid hok.2.2.2.2.1
  have HLn4 := Lib.hid (show ((Ty.list tReading).cod.enc y8).length ≤ 68719476736 by rw [hR4]; omega)
  have hll4 : y8.length ≤ 9223372036854775807 := hok.2.2.2.2.1.1
  have HO5 := Lib.hid hok.2.2.2.2.2.1
  have HLn5 := Lib.hid (show ((Ty.list tWrite).cod.enc y9).length ≤ 68719476736 by rw [hR5]; omega)
  have hll5 : y9.length ≤ 9223372036854775807 := hok.2.2.2.2.2.1.1
  have HF6 := Lib.hid (show ∀ n ∈ [y10, y11, y12, y13, y14], Fits n from fits_cons hok.2.2.2.2.2.2.1.1 (fits_cons hok.2.2.2.2.2.2.1.2.1 (fits_cons hok.2.2.2.2.2.2.1.2.2.1 (fits_cons hok.2.2.2.2.2.2.1.2.2.2.1 (fits_cons hok.2.2.2.2.2.2.1.2.2.2.2 (fits_nil))))))
  have HO7 := Lib.hid (show tDdl.cod.ok (y15, ((y16, (y17, (y18, y19))), (y20, (y21, ((y22, (y23, y24)), y25))))) from hok.2.2.2.2.2.2.2.1)
  have HLn7 := Lib.hid (show (tDdl.cod.enc (y15, ((y16, (y17, (y18, y19))), (y20, (y21, ((y22, (y23, y24)), y25)))))).length ≤ 68719476736 by rw [hR7]; omega)
  have HF8 := Lib.hid (show ∀ n ∈ [y26, y27], Fits n from fits_cons hok.2.2.2.2.2.2.2.2.1.1 (fits_cons hok.2.2.2.2.2.2.2.2.1.2 (fits_nil)))
  have hs9 : y28.size ≤ 281474976710656 := str_size hR9 (by omega)
  have HF10 := Lib.hid (show Fits y29 from hok.2.2.2.2.2.2.2.2.2.2)
  have sa1 : ¬ 9223372036854775807 < (mkb R0).size + (mkb R1).size := by simp only [mkb_size]; omega
  have sc1 : mkb R0 ++ mkb R1 = mkb P1 := by rw [mkb_append, hP1]
  have sa2 : ¬ 9223372036854775807 < (mkb P1).size + (mkb R2).size := by simp only [mkb_size]; omega
  have sc2 : mkb P1 ++ mkb R2 = mkb P2 := by rw [mkb_append, hP2]
  have sa3 : ¬ 9223372036854775807 < (mkb P2).size + (mkb R3).size := by simp only [mkb_size]; omega
  have sc3 : mkb P2 ++ mkb R3 = mkb P3 := by rw [mkb_append, hP3]
  have sa4 : ¬ 9223372036854775807 < (mkb P3).size + (mkb R4).size := by simp only [mkb_size]; omega
  have sc4 : mkb P3 ++ mkb R4 = mkb P4 := by rw [mkb_append, hP4]
  have sa5 : ¬ 9223372036854775807 < (mkb P4).size + (mkb R5).size := by simp only [mkb_size]; omega
  have sc5 : mkb P4 ++ mkb R5 = mkb P5 := by rw [mkb_append, hP5]
  have sa6 : ¬ 9223372036854775807 < (mkb P5).size + (mkb R6).size := by simp only [mkb_size]; omega
  have sc6 : mkb P5 ++ mkb R6 = mkb P6 := by rw [mkb_append, hP6]
  have sa7 : ¬ 9223372036854775807 < (mkb P6).size + (mkb R7).size := by simp only [mkb_size]; omega
  have sc7 : mkb P6 ++ mkb R7 = mkb P7 := by rw [mkb_append, hP7]
  have sa8 : ¬ 9223372036854775807 < (mkb P7).size + (mkb R8).size := by simp only [mkb_size]; omega
  have sc8 : mkb P7 ++ mkb R8 = mkb P8 := by rw [mkb_append, hP8]
  have sa9 : ¬ 9223372036854775807 < (mkb P8).size + (mkb R9).size := by simp only [mkb_size]; omega
  have sc9 : mkb P8 ++ mkb R9 = mkb P9 := by rw [mkb_append, hP9]
  have sa10 : ¬ 9223372036854775807 < (mkb P9).size + (mkb R10).size := by simp only [mkb_size]; omega
  have sc10 : mkb P9 ++ mkb R10 = mkb P10 := by rw [mkb_append, hP10]
  obtain ⟨wb, hwb⟩ : ∃ wb, w.alloc (.cells #[.int .i64 y0, .int .i64 y1, .int .i64 y2, .int .i64 y3, .int .i64 y4, .int .i64 y5, .int .i64 y6, .int .i64 y7, .slice A8 y8.length cap8, .slice A9 y9.length cap9, .int .i64 y10, .int .i64 y11, .int .i64 y12, .int .i64 y13, .int .i64 y14, .int .i64 y15, .string y16, .string y17, .string y18, .string y19, .bool y20, .int .i64 y21, .int .i64 y22, .int .i64 y23, .string y24, .slice A25 y25.length cap25, .int .i64 y26, .int .i64 y27, .string y28, .int .i64 y29] 64) = wb := ⟨_, rfl⟩
  have hbb : Below w.heap.size w wb := by rw [← hwb]; exact (Below.refl _ _).alloc (Nat.le_refl _) _
  have q0 : wb.cell? ⟨w.heap.size, 0, none⟩ = some (.int .i64 y0) := by rw [← hwb]; exact (blk_cell (blk_new w _) 0).trans rfl
  have q1 : wb.cell? ⟨w.heap.size, 1, none⟩ = some (.int .i64 y1) := by rw [← hwb]; exact (blk_cell (blk_new w _) 1).trans rfl
  have q2 : wb.cell? ⟨w.heap.size, 2, none⟩ = some (.int .i64 y2) := by rw [← hwb]; exact (blk_cell (blk_new w _) 2).trans rfl
  have q3 : wb.cell? ⟨w.heap.size, 3, none⟩ = some (.int .i64 y3) := by rw [← hwb]; exact (blk_cell (blk_new w _) 3).trans rfl
  have q4 : wb.cell? ⟨w.heap.size, 4, none⟩ = some (.int .i64 y4) := by rw [← hwb]; exact (blk_cell (blk_new w _) 4).trans rfl
  have q5 : wb.cell? ⟨w.heap.size, 5, none⟩ = some (.int .i64 y5) := by rw [← hwb]; exact (blk_cell (blk_new w _) 5).trans rfl
  have q6 : wb.cell? ⟨w.heap.size, 6, none⟩ = some (.int .i64 y6) := by rw [← hwb]; exact (blk_cell (blk_new w _) 6).trans rfl
  have q7 : wb.cell? ⟨w.heap.size, 7, none⟩ = some (.int .i64 y7) := by rw [← hwb]; exact (blk_cell (blk_new w _) 7).trans rfl
  have q8 : wb.cell? ⟨w.heap.size, 8, none⟩ = some (.slice A8 y8.length cap8) := by rw [← hwb]; exact (blk_cell (blk_new w _) 8).trans rfl
  have q9 : wb.cell? ⟨w.heap.size, 9, none⟩ = some (.slice A9 y9.length cap9) := by rw [← hwb]; exact (blk_cell (blk_new w _) 9).trans rfl
  have q10 : wb.cell? ⟨w.heap.size, 10, none⟩ = some (.int .i64 y10) := by rw [← hwb]; exact (blk_cell (blk_new w _) 10).trans rfl
  have q11 : wb.cell? ⟨w.heap.size, 11, none⟩ = some (.int .i64 y11) := by rw [← hwb]; exact (blk_cell (blk_new w _) 11).trans rfl
  have q12 : wb.cell? ⟨w.heap.size, 12, none⟩ = some (.int .i64 y12) := by rw [← hwb]; exact (blk_cell (blk_new w _) 12).trans rfl
  have q13 : wb.cell? ⟨w.heap.size, 13, none⟩ = some (.int .i64 y13) := by rw [← hwb]; exact (blk_cell (blk_new w _) 13).trans rfl
  have q14 : wb.cell? ⟨w.heap.size, 14, none⟩ = some (.int .i64 y14) := by rw [← hwb]; exact (blk_cell (blk_new w _) 14).trans rfl
  have q15 : wb.cell? ⟨w.heap.size, 15, none⟩ = some (.int .i64 y15) := by rw [← hwb]; exact (blk_cell (blk_new w _) 15).trans rfl
  have q16 : wb.cell? ⟨w.heap.size, 16, none⟩ = some (.string y16) := by rw [← hwb]; exact (blk_cell (blk_new w _) 16).trans rfl
  have q17 : wb.cell? ⟨w.heap.size, 17, none⟩ = some (.string y17) := by rw [← hwb]; exact (blk_cell (blk_new w _) 17).trans rfl
  have q18 : wb.cell? ⟨w.heap.size, 18, none⟩ = some (.string y18) := by rw [← hwb]; exact (blk_cell (blk_new w _) 18).trans rfl
  have q19 : wb.cell? ⟨w.heap.size, 19, none⟩ = some (.string y19) := by rw [← hwb]; exact (blk_cell (blk_new w _) 19).trans rfl
  have q20 : wb.cell? ⟨w.heap.size, 20, none⟩ = some (.bool y20) := by rw [← hwb]; exact (blk_cell (blk_new w _) 20).trans rfl
  have q21 : wb.cell? ⟨w.heap.size, 21, none⟩ = some (.int .i64 y21) := by rw [← hwb]; exact (blk_cell (blk_new w _) 21).trans rfl
  have q22 : wb.cell? ⟨w.heap.size, 22, none⟩ = some (.int .i64 y22) := by rw [← hwb]; exact (blk_cell (blk_new w _) 22).trans rfl
  have q23 : wb.cell? ⟨w.heap.size, 23, none⟩ = some (.int .i64 y23) := by rw [← hwb]; exact (blk_cell (blk_new w _) 23).trans rfl
  have q24 : wb.cell? ⟨w.heap.size, 24, none⟩ = some (.string y24) := by rw [← hwb]; exact (blk_cell (blk_new w _) 24).trans rfl
  have q25 : wb.cell? ⟨w.heap.size, 25, none⟩ = some (.slice A25 y25.length cap25) := by rw [← hwb]; exact (blk_cell (blk_new w _) 25).trans rfl
  have q26 : wb.cell? ⟨w.heap.size, 26, none⟩ = some (.int .i64 y26) := by rw [← hwb]; exact (blk_cell (blk_new w _) 26).trans rfl
  have q27 : wb.cell? ⟨w.heap.size, 27, none⟩ = some (.int .i64 y27) := by rw [← hwb]; exact (blk_cell (blk_new w _) 27).trans rfl
  have q28 : wb.cell? ⟨w.heap.size, 28, none⟩ = some (.string y28) := by rw [← hwb]; exact (blk_cell (blk_new w _) 28).trans rfl
  have q29 : wb.cell? ⟨w.heap.size, 29, none⟩ = some (.int .i64 y29) := by rw [← hwb]; exact (blk_cell (blk_new w _) 29).trans rfl
  have hNb : w.heap.size < wb.heap.size := by rw [← hwb]; simp
  have HHs1 := Lib.hid (hsub1.below hbb)
  clear hsub1
  have HHs2 := Lib.hid (hsub2.below hbb)
  clear hsub2
  have HH4 := Lib.hid (hh8.below hbb)
  have HH5 := Lib.hid (hh9.below hbb)
  have HHs7 := Lib.hid (hsub7.below hbb)
  clear hsub7
  have HBB := Lib.hid hbb
  have HR0 := Lib.hid hR0
  have HR1 := Lib.hid hR1
  have HR2 := Lib.hid hR2
  have HR3 := Lib.hid hR3
  have HR4 := Lib.hid hR4
  have HR5 := Lib.hid hR5
  have HR6 := Lib.hid hR6
  have HR7 := Lib.hid hR7
  have HR8 := Lib.hid hR8
  have HR9 := Lib.hid hR9
  have HR10 := Lib.hid hR10
  clear hE hlen hok hbb hR0 hR1 hR2 hR3 hR4 hR5 hR6 hR7 hR8 hR9 hR10 hP1 hP2 hP3 hP4 hP5 hP6 hP7 hP8 hP9 hP10 hh8 hh9 hh25
  show Calls Try.prog 22 #[.agg #[.int .i64 y0, .int .i64 y1, .int .i64 y2, .int .i64 y3, .int .i64 y4, .int .i64 y5, .int .i64 y6, .int .i64 y7, .slice A8 y8.length cap8, .slice A9 y9.length cap9, .int .i64 y10, .int .i64 y11, .int .i64 y12, .int .i64 y13, .int .i64 y14, .int .i64 y15, .string y16, .string y17, .string y18, .string y19, .bool y20, .int .i64 y21, .int .i64 y22, .int .i64 y23, .string y24, .slice A25 y25.length cap25, .int .i64 y26, .int .i64 y27, .string y28, .int .i64 y29]] w _
  go_enter Try.func22, Try.ntmps22
  go_wp2_with fail
  clear hwb
  have Q0 := Lib.hid q0
  have Q1 := Lib.hid q1
  have Q2 := Lib.hid q2
  have Q3 := Lib.hid q3
  have Q4 := Lib.hid q4
  have Q5 := Lib.hid q5
  have Q6 := Lib.hid q6
  have Q7 := Lib.hid q7
  have Q8 := Lib.hid q8
  have Q9 := Lib.hid q9
  have Q10 := Lib.hid q10
  have Q11 := Lib.hid q11
  have Q12 := Lib.hid q12
  have Q13 := Lib.hid q13
  have Q14 := Lib.hid q14
  have Q15 := Lib.hid q15
  have Q16 := Lib.hid q16
  have Q17 := Lib.hid q17
  have Q18 := Lib.hid q18
  have Q19 := Lib.hid q19
  have Q20 := Lib.hid q20
  have Q21 := Lib.hid q21
  have Q22 := Lib.hid q22
  have Q23 := Lib.hid q23
  have Q24 := Lib.hid q24
  have Q25 := Lib.hid q25
  have Q26 := Lib.hid q26
  have Q27 := Lib.hid q27
  have Q28 := Lib.hid q28
  have Q29 := Lib.hid q29
  have SA1 := Lib.hid sa1
  have SC1 := Lib.hid sc1
  have SA2 := Lib.hid sa2
  have SC2 := Lib.hid sc2
  have SA3 := Lib.hid sa3
  have SC3 := Lib.hid sc3
  have SA4 := Lib.hid sa4
  have SC4 := Lib.hid sc4
  have SA5 := Lib.hid sa5
  have SC5 := Lib.hid sc5
  have SA6 := Lib.hid sa6
  have SC6 := Lib.hid sc6
  have SA7 := Lib.hid sa7
  have SC7 := Lib.hid sc7
  have SA8 := Lib.hid sa8
  have SC8 := Lib.hid sc8
  have SA9 := Lib.hid sa9
  have SC9 := Lib.hid sc9
  have SA10 := Lib.hid sa10
  have SC10 := Lib.hid sc10
  have HSZ9 := Lib.hid hs9
  clear q0 q1 q2 q3 q4 q5 q6 q7 q8 q9 q10 q11 q12 q13 q14 q15 q16 q17 q18 q19 q20 q21 q22 q23 q24 q25 q26 q27 q28 q29 sa1 sc1 sa2 sc2 sa3 sc3 sa4 sc4 sa5 sc5 sa6 sc6 sa7 sc7 sa8 sc8 sa9 sc9 sa10 sc10 hs9
  clear hl1 hl2 hl3 hl4 hl5 hl6 hl7 hl8 hl9 hl10
  refine wp_region_lin (vals := [none, none, some (.string (mkb P10)), some (.pointer (some ⟨w.heap.size, 0, none⟩)), some (.int .i64 y0), some (.string (mkb R0)), some (.pointer (some ⟨w.heap.size, 1, none⟩)), some (.agg #[.int .i64 y1, .int .i64 y2, .int .i64 y3]), some (.string (mkb R1)), some (.string (mkb P1)), some (.pointer (some ⟨w.heap.size, 4, none⟩)), some (.agg #[.int .i64 y4, .int .i64 y5, .int .i64 y6]), some (.string (mkb R2)), some (.string (mkb P2)), some (.pointer (some ⟨w.heap.size, 7, none⟩)), some (.int .i64 y7), some (.string (mkb R3)), some (.string (mkb P3)), some (.pointer (some ⟨w.heap.size, 8, none⟩)), some (.slice A8 y8.length cap8), some (.string (mkb R4)), some (.string (mkb P4)), some (.pointer (some ⟨w.heap.size, 9, none⟩)), some (.slice A9 y9.length cap9), some (.string (mkb R5)), some (.string (mkb P5)), some (.pointer (some ⟨w.heap.size, 10, none⟩)), some (.int .i64 y10), some (.pointer (some ⟨w.heap.size, 11, none⟩)), some (.int .i64 y11), some (.pointer (some ⟨w.heap.size, 12, none⟩)), some (.int .i64 y12), some (.pointer (some ⟨w.heap.size, 13, none⟩)), some (.int .i64 y13), some (.pointer (some ⟨w.heap.size, 14, none⟩)), some (.int .i64 y14), none, some (.string (mkb R6)), some (.string (mkb P6)), some (.pointer (some ⟨w.heap.size, 15, none⟩)), some (.agg #[.int .i64 y15, .string y16, .string y17, .string y18, .string y19, .bool y20, .int .i64 y21, .int .i64 y22, .int .i64 y23, .string y24, .slice A25 y25.length cap25]), some (.string (mkb R7)), some (.string (mkb P7)), some (.pointer (some ⟨w.heap.size, 26, none⟩)), some (.int .i64 y26), some (.pointer (some ⟨w.heap.size, 27, none⟩)), some (.int .i64 y27), none, some (.string (mkb R8)), some (.string (mkb P8)), some (.pointer (some ⟨w.heap.size, 28, none⟩)), some (.string y28), some (.string (mkb R9)), some (.string (mkb P9)), some (.pointer (some ⟨w.heap.size, 29, none⟩)), some (.int .i64 y29), some (.string (mkb R10)), some (.string (mkb P10))]) (rows := [none, none, none, none, none, none, none, none, none, none, none, none, none, none, none, none, none, none, none, none, none, none, none, none, none, none, none, none, none, none, none, none, none, none, none, none, some [y10, y11, y12, y13, y14], none, none, none, none, none, none, none, none, none, none, some [y26, y27]]) (by kernel_rfl) (by kernel_rfl) ?_ ?_
  · skip
    refine Steps.cons (fun a W hb hf hG K hK => ?_) ?_
    · have hb' : Below wb.heap.size wb W := ((Below.refl _ _).drew).trans hb
      have e1 : a.tmps[1]?.getD undef = .pointer (some ⟨w.heap.size, 0, none⟩) := tmp_of ((hf.out 1 (by kernel_rfl)).trans rfl)
      go_simp
      exact hK.out _ _ (Below.refl _ _) (yield_val rfl rfl)
    refine Steps.cons (fun a W hb hf hG K hK => ?_) ?_
    · have hb' : Below wb.heap.size wb W := ((Below.refl _ _).drew).trans hb
      have e3 := tmp_of (known_val (hG.out 3 (by kernel_rfl)) (u := .pointer (some ⟨w.heap.size, 0, none⟩)) rfl)
      have c0 := keep1 Q0.out hb'
      go_simp
      exact hK.out _ _ (Below.refl _ _) (yield_val rfl rfl)
    refine Steps.cons (fun a W hb hf hG K hK => ?_) ?_
    · have hb' : Below wb.heap.size wb W := ((Below.refl _ _).drew).trans hb
      have e4 := tmp_of (known_val (hG.out 4 (by kernel_rfl)) (u := .int .i64 y0) rfl)
      go_simp
      refine (num_ref' y0 R0 HR0.out _ HF0.out).mono ?_
      rintro e W1 ⟨rfl, hr⟩
      exact hK.out _ _ hr (yield_val rfl rfl)
    refine Steps.cons (fun a W hb hf hG K hK => ?_) ?_
    · have hb' : Below wb.heap.size wb W := ((Below.refl _ _).drew).trans hb
      have e1 : a.tmps[1]?.getD undef = .pointer (some ⟨w.heap.size, 0, none⟩) := tmp_of ((hf.out 1 (by kernel_rfl)).trans rfl)
      go_simp
      exact hK.out _ _ (Below.refl _ _) (yield_val rfl rfl)
    refine Steps.cons (fun a W hb hf hG K hK => ?_) ?_
    · have hb' : Below wb.heap.size wb W := ((Below.refl _ _).drew).trans hb
      have e6 := tmp_of (known_val (hG.out 6 (by kernel_rfl)) (u := .pointer (some ⟨w.heap.size, 1, none⟩)) rfl)
      have c1 := keep1 Q1.out hb'
      have c2 := keep1 Q2.out hb'
      have c3 := keep1 Q3.out hb'
      go_simp
      exact hK.out _ _ (Below.refl _ _) (yield_val rfl rfl)
    refine Steps.cons (fun a W hb hf hG K hK => ?_) ?_
    · have hb' : Below wb.heap.size wb W := ((Below.refl _ _).drew).trans hb
      have e7 := tmp_of (known_val (hG.out 7 (by kernel_rfl)) (u := .agg #[.int .i64 y1, .int .i64 y2, .int .i64 y3]) rfl)
      go_simp
      refine (sub_ref' tid_ref _ [.int .i64 y1, .int .i64 y2, .int .i64 y3] _ R1 HR1.out _ (HHs1.out.below hb') HO1.out HLn1.out).mono ?_
      rintro e W1 ⟨rfl, hr⟩
      exact hK.out _ _ hr (yield_val rfl rfl)
    refine Steps.cons (fun a W hb hf hG K hK => ?_) ?_
    · have hb' : Below wb.heap.size wb W := ((Below.refl _ _).drew).trans hb
      have e5 := tmp_of (known_val (hG.out 5 (by kernel_rfl)) (u := .string (mkb R0)) rfl)
      have e8 := tmp_of (known_val (hG.out 8 (by kernel_rfl)) (u := .string (mkb R1)) rfl)
      have sa := SA1.out
      have sc := SC1.out
      go_simp
      exact hK.out _ _ (Below.refl _ _) (yield_val rfl rfl)
    refine Steps.cons (fun a W hb hf hG K hK => ?_) ?_
    · have hb' : Below wb.heap.size wb W := ((Below.refl _ _).drew).trans hb
      have e1 : a.tmps[1]?.getD undef = .pointer (some ⟨w.heap.size, 0, none⟩) := tmp_of ((hf.out 1 (by kernel_rfl)).trans rfl)
      go_simp
      exact hK.out _ _ (Below.refl _ _) (yield_val rfl rfl)
    refine Steps.cons (fun a W hb hf hG K hK => ?_) ?_
    · have hb' : Below wb.heap.size wb W := ((Below.refl _ _).drew).trans hb
      have e10 := tmp_of (known_val (hG.out 10 (by kernel_rfl)) (u := .pointer (some ⟨w.heap.size, 4, none⟩)) rfl)
      have c4 := keep1 Q4.out hb'
      have c5 := keep1 Q5.out hb'
      have c6 := keep1 Q6.out hb'
      go_simp
      exact hK.out _ _ (Below.refl _ _) (yield_val rfl rfl)
    refine Steps.cons (fun a W hb hf hG K hK => ?_) ?_
    · have hb' : Below wb.heap.size wb W := ((Below.refl _ _).drew).trans hb
      have e11 := tmp_of (known_val (hG.out 11 (by kernel_rfl)) (u := .agg #[.int .i64 y4, .int .i64 y5, .int .i64 y6]) rfl)
      go_simp
      refine (sub_ref' tid_ref _ [.int .i64 y4, .int .i64 y5, .int .i64 y6] _ R2 HR2.out _ (HHs2.out.below hb') HO2.out HLn2.out).mono ?_
      rintro e W1 ⟨rfl, hr⟩
      exact hK.out _ _ hr (yield_val rfl rfl)
    refine Steps.cons (fun a W hb hf hG K hK => ?_) ?_
    · have hb' : Below wb.heap.size wb W := ((Below.refl _ _).drew).trans hb
      have e9 := tmp_of (known_val (hG.out 9 (by kernel_rfl)) (u := .string (mkb P1)) rfl)
      have e12 := tmp_of (known_val (hG.out 12 (by kernel_rfl)) (u := .string (mkb R2)) rfl)
      have sa := SA2.out
      have sc := SC2.out
      go_simp
      exact hK.out _ _ (Below.refl _ _) (yield_val rfl rfl)
    refine Steps.cons (fun a W hb hf hG K hK => ?_) ?_
    · have hb' : Below wb.heap.size wb W := ((Below.refl _ _).drew).trans hb
      have e1 : a.tmps[1]?.getD undef = .pointer (some ⟨w.heap.size, 0, none⟩) := tmp_of ((hf.out 1 (by kernel_rfl)).trans rfl)
      go_simp
      exact hK.out _ _ (Below.refl _ _) (yield_val rfl rfl)
    refine Steps.cons (fun a W hb hf hG K hK => ?_) ?_
    · have hb' : Below wb.heap.size wb W := ((Below.refl _ _).drew).trans hb
      have e14 := tmp_of (known_val (hG.out 14 (by kernel_rfl)) (u := .pointer (some ⟨w.heap.size, 7, none⟩)) rfl)
      have c7 := keep1 Q7.out hb'
      go_simp
      exact hK.out _ _ (Below.refl _ _) (yield_val rfl rfl)
    refine Steps.cons (fun a W hb hf hG K hK => ?_) ?_
    · have hb' : Below wb.heap.size wb W := ((Below.refl _ _).drew).trans hb
      have e15 := tmp_of (known_val (hG.out 15 (by kernel_rfl)) (u := .int .i64 y7) rfl)
      go_simp
      refine (num_ref' y7 R3 HR3.out _ HF3.out).mono ?_
      rintro e W1 ⟨rfl, hr⟩
      exact hK.out _ _ hr (yield_val rfl rfl)
    refine Steps.cons (fun a W hb hf hG K hK => ?_) ?_
    · have hb' : Below wb.heap.size wb W := ((Below.refl _ _).drew).trans hb
      have e13 := tmp_of (known_val (hG.out 13 (by kernel_rfl)) (u := .string (mkb P2)) rfl)
      have e16 := tmp_of (known_val (hG.out 16 (by kernel_rfl)) (u := .string (mkb R3)) rfl)
      have sa := SA3.out
      have sc := SC3.out
      go_simp
      exact hK.out _ _ (Below.refl _ _) (yield_val rfl rfl)
    refine Steps.cons (fun a W hb hf hG K hK => ?_) ?_
    · have hb' : Below wb.heap.size wb W := ((Below.refl _ _).drew).trans hb
      have e1 : a.tmps[1]?.getD undef = .pointer (some ⟨w.heap.size, 0, none⟩) := tmp_of ((hf.out 1 (by kernel_rfl)).trans rfl)
      go_simp
      exact hK.out _ _ (Below.refl _ _) (yield_val rfl rfl)
    refine Steps.cons (fun a W hb hf hG K hK => ?_) ?_
    · have hb' : Below wb.heap.size wb W := ((Below.refl _ _).drew).trans hb
      have e18 := tmp_of (known_val (hG.out 18 (by kernel_rfl)) (u := .pointer (some ⟨w.heap.size, 8, none⟩)) rfl)
      have c8 := keep1 Q8.out hb'
      go_simp
      exact hK.out _ _ (Below.refl _ _) (yield_val rfl rfl)
    refine Steps.cons (fun a W hb hf hG K hK => ?_) ?_
    · have hb' : Below wb.heap.size wb W := ((Below.refl _ _).drew).trans hb
      have e19 := tmp_of (known_val (hG.out 19 (by kernel_rfl)) (u := .slice A8 y8.length cap8) rfl)
      go_simp
      refine (list_ref' reads_all y8 _ _ _ R4 HR4.out _ (HH4.out.below hb') HO4.out HLn4.out).mono ?_
      rintro e W1 ⟨rfl, hr⟩
      exact hK.out _ _ hr (yield_val rfl rfl)
    refine Steps.cons (fun a W hb hf hG K hK => ?_) ?_
    · have hb' : Below wb.heap.size wb W := ((Below.refl _ _).drew).trans hb
      have e17 := tmp_of (known_val (hG.out 17 (by kernel_rfl)) (u := .string (mkb P3)) rfl)
      have e20 := tmp_of (known_val (hG.out 20 (by kernel_rfl)) (u := .string (mkb R4)) rfl)
      have sa := SA4.out
      have sc := SC4.out
      go_simp
      exact hK.out _ _ (Below.refl _ _) (yield_val rfl rfl)
    refine Steps.cons (fun a W hb hf hG K hK => ?_) ?_
    · have hb' : Below wb.heap.size wb W := ((Below.refl _ _).drew).trans hb
      have e1 : a.tmps[1]?.getD undef = .pointer (some ⟨w.heap.size, 0, none⟩) := tmp_of ((hf.out 1 (by kernel_rfl)).trans rfl)
      go_simp
      exact hK.out _ _ (Below.refl _ _) (yield_val rfl rfl)
    refine Steps.cons (fun a W hb hf hG K hK => ?_) ?_
    · have hb' : Below wb.heap.size wb W := ((Below.refl _ _).drew).trans hb
      have e22 := tmp_of (known_val (hG.out 22 (by kernel_rfl)) (u := .pointer (some ⟨w.heap.size, 9, none⟩)) rfl)
      have c9 := keep1 Q9.out hb'
      go_simp
      exact hK.out _ _ (Below.refl _ _) (yield_val rfl rfl)
    refine Steps.cons (fun a W hb hf hG K hK => ?_) ?_
    · have hb' : Below wb.heap.size wb W := ((Below.refl _ _).drew).trans hb
      have e23 := tmp_of (known_val (hG.out 23 (by kernel_rfl)) (u := .slice A9 y9.length cap9) rfl)
      go_simp
      refine (list_ref' writes_all y9 _ _ _ R5 HR5.out _ (HH5.out.below hb') HO5.out HLn5.out).mono ?_
      rintro e W1 ⟨rfl, hr⟩
      exact hK.out _ _ hr (yield_val rfl rfl)
    refine Steps.cons (fun a W hb hf hG K hK => ?_) ?_
    · have hb' : Below wb.heap.size wb W := ((Below.refl _ _).drew).trans hb
      have e21 := tmp_of (known_val (hG.out 21 (by kernel_rfl)) (u := .string (mkb P4)) rfl)
      have e24 := tmp_of (known_val (hG.out 24 (by kernel_rfl)) (u := .string (mkb R5)) rfl)
      have sa := SA5.out
      have sc := SC5.out
      go_simp
      exact hK.out _ _ (Below.refl _ _) (yield_val rfl rfl)
    refine Steps.cons (fun a W hb hf hG K hK => ?_) ?_
    · have hb' : Below wb.heap.size wb W := ((Below.refl _ _).drew).trans hb
      have e1 : a.tmps[1]?.getD undef = .pointer (some ⟨w.heap.size, 0, none⟩) := tmp_of ((hf.out 1 (by kernel_rfl)).trans rfl)
      go_simp
      exact hK.out _ _ (Below.refl _ _) (yield_val rfl rfl)
    refine Steps.cons (fun a W hb hf hG K hK => ?_) ?_
    · have hb' : Below wb.heap.size wb W := ((Below.refl _ _).drew).trans hb
      have e26 := tmp_of (known_val (hG.out 26 (by kernel_rfl)) (u := .pointer (some ⟨w.heap.size, 10, none⟩)) rfl)
      have c10 := keep1 Q10.out hb'
      go_simp
      exact hK.out _ _ (Below.refl _ _) (yield_val rfl rfl)
    refine Steps.cons (fun a W hb hf hG K hK => ?_) ?_
    · have hb' : Below wb.heap.size wb W := ((Below.refl _ _).drew).trans hb
      have e1 : a.tmps[1]?.getD undef = .pointer (some ⟨w.heap.size, 0, none⟩) := tmp_of ((hf.out 1 (by kernel_rfl)).trans rfl)
      go_simp
      exact hK.out _ _ (Below.refl _ _) (yield_val rfl rfl)
    refine Steps.cons (fun a W hb hf hG K hK => ?_) ?_
    · have hb' : Below wb.heap.size wb W := ((Below.refl _ _).drew).trans hb
      have e28 := tmp_of (known_val (hG.out 28 (by kernel_rfl)) (u := .pointer (some ⟨w.heap.size, 11, none⟩)) rfl)
      have c11 := keep1 Q11.out hb'
      go_simp
      exact hK.out _ _ (Below.refl _ _) (yield_val rfl rfl)
    refine Steps.cons (fun a W hb hf hG K hK => ?_) ?_
    · have hb' : Below wb.heap.size wb W := ((Below.refl _ _).drew).trans hb
      have e1 : a.tmps[1]?.getD undef = .pointer (some ⟨w.heap.size, 0, none⟩) := tmp_of ((hf.out 1 (by kernel_rfl)).trans rfl)
      go_simp
      exact hK.out _ _ (Below.refl _ _) (yield_val rfl rfl)
    refine Steps.cons (fun a W hb hf hG K hK => ?_) ?_
    · have hb' : Below wb.heap.size wb W := ((Below.refl _ _).drew).trans hb
      have e30 := tmp_of (known_val (hG.out 30 (by kernel_rfl)) (u := .pointer (some ⟨w.heap.size, 12, none⟩)) rfl)
      have c12 := keep1 Q12.out hb'
      go_simp
      exact hK.out _ _ (Below.refl _ _) (yield_val rfl rfl)
    refine Steps.cons (fun a W hb hf hG K hK => ?_) ?_
    · have hb' : Below wb.heap.size wb W := ((Below.refl _ _).drew).trans hb
      have e1 : a.tmps[1]?.getD undef = .pointer (some ⟨w.heap.size, 0, none⟩) := tmp_of ((hf.out 1 (by kernel_rfl)).trans rfl)
      go_simp
      exact hK.out _ _ (Below.refl _ _) (yield_val rfl rfl)
    refine Steps.cons (fun a W hb hf hG K hK => ?_) ?_
    · have hb' : Below wb.heap.size wb W := ((Below.refl _ _).drew).trans hb
      have e32 := tmp_of (known_val (hG.out 32 (by kernel_rfl)) (u := .pointer (some ⟨w.heap.size, 13, none⟩)) rfl)
      have c13 := keep1 Q13.out hb'
      go_simp
      exact hK.out _ _ (Below.refl _ _) (yield_val rfl rfl)
    refine Steps.cons (fun a W hb hf hG K hK => ?_) ?_
    · have hb' : Below wb.heap.size wb W := ((Below.refl _ _).drew).trans hb
      have e1 : a.tmps[1]?.getD undef = .pointer (some ⟨w.heap.size, 0, none⟩) := tmp_of ((hf.out 1 (by kernel_rfl)).trans rfl)
      go_simp
      exact hK.out _ _ (Below.refl _ _) (yield_val rfl rfl)
    refine Steps.cons (fun a W hb hf hG K hK => ?_) ?_
    · have hb' : Below wb.heap.size wb W := ((Below.refl _ _).drew).trans hb
      have e34 := tmp_of (known_val (hG.out 34 (by kernel_rfl)) (u := .pointer (some ⟨w.heap.size, 14, none⟩)) rfl)
      have c14 := keep1 Q14.out hb'
      go_simp
      exact hK.out _ _ (Below.refl _ _) (yield_val rfl rfl)
    refine Steps.cons (fun a W hb hf hG K hK => ?_) ?_
    · have hb' : Below wb.heap.size wb W := ((Below.refl _ _).drew).trans hb
      have e27 := tmp_of (known_val (hG.out 27 (by kernel_rfl)) (u := .int .i64 y10) rfl)
      have e29 := tmp_of (known_val (hG.out 29 (by kernel_rfl)) (u := .int .i64 y11) rfl)
      have e31 := tmp_of (known_val (hG.out 31 (by kernel_rfl)) (u := .int .i64 y12) rfl)
      have e33 := tmp_of (known_val (hG.out 33 (by kernel_rfl)) (u := .int .i64 y13) rfl)
      have e35 := tmp_of (known_val (hG.out 35 (by kernel_rfl)) (u := .int .i64 y14) rfl)
      go_simp
      exact hK.out _ _ ((Below.refl _ _).alloc (Nat.le_refl _) _) (yield_row rfl rfl ⟨_, _, rfl, rowB (by first | rfl | simp) rfl⟩)
    refine Steps.cons (fun a W hb hf hG K hK => ?_) ?_
    · have hb' : Below wb.heap.size wb W := ((Below.refl _ _).drew).trans hb
      obtain ⟨qr, cr, er, hrow⟩ := (hG.out 36 (by kernel_rfl)).2 [y10, y11, y12, y13, y14] rfl
      have e36 := tmp_of er
      simp only [List.length_cons, List.length_nil] at e36
      go_simp
      refine (nums_at [y10, y11, y12, y13, y14] R6 HR6.out 5 rfl _ _ _ (by decide) HF6.out hrow).mono ?_
      rintro e W1 ⟨rfl, hr⟩
      exact hK.out _ _ hr (yield_val rfl rfl)
    refine Steps.cons (fun a W hb hf hG K hK => ?_) ?_
    · have hb' : Below wb.heap.size wb W := ((Below.refl _ _).drew).trans hb
      have e25 := tmp_of (known_val (hG.out 25 (by kernel_rfl)) (u := .string (mkb P5)) rfl)
      have e37 := tmp_of (known_val (hG.out 37 (by kernel_rfl)) (u := .string (mkb R6)) rfl)
      have sa := SA6.out
      have sc := SC6.out
      go_simp
      exact hK.out _ _ (Below.refl _ _) (yield_val rfl rfl)
    refine Steps.cons (fun a W hb hf hG K hK => ?_) ?_
    · have hb' : Below wb.heap.size wb W := ((Below.refl _ _).drew).trans hb
      have e1 : a.tmps[1]?.getD undef = .pointer (some ⟨w.heap.size, 0, none⟩) := tmp_of ((hf.out 1 (by kernel_rfl)).trans rfl)
      go_simp
      exact hK.out _ _ (Below.refl _ _) (yield_val rfl rfl)
    refine Steps.cons (fun a W hb hf hG K hK => ?_) ?_
    · have hb' : Below wb.heap.size wb W := ((Below.refl _ _).drew).trans hb
      have e39 := tmp_of (known_val (hG.out 39 (by kernel_rfl)) (u := .pointer (some ⟨w.heap.size, 15, none⟩)) rfl)
      have c15 := keep1 Q15.out hb'
      have c16 := keep1 Q16.out hb'
      have c17 := keep1 Q17.out hb'
      have c18 := keep1 Q18.out hb'
      have c19 := keep1 Q19.out hb'
      have c20 := keep1 Q20.out hb'
      have c21 := keep1 Q21.out hb'
      have c22 := keep1 Q22.out hb'
      have c23 := keep1 Q23.out hb'
      have c24 := keep1 Q24.out hb'
      have c25 := keep1 Q25.out hb'
      go_simp
      exact hK.out _ _ (Below.refl _ _) (yield_val rfl rfl)
    refine Steps.cons (fun a W hb hf hG K hK => ?_) ?_
    · have hb' : Below wb.heap.size wb W := ((Below.refl _ _).drew).trans hb
      have e40 := tmp_of (known_val (hG.out 40 (by kernel_rfl)) (u := .agg #[.int .i64 y15, .string y16, .string y17, .string y18, .string y19, .bool y20, .int .i64 y21, .int .i64 y22, .int .i64 y23, .string y24, .slice A25 y25.length cap25]) rfl)
      go_simp
      refine (sub_ref' ddl_ref _ [.int .i64 y15, .string y16, .string y17, .string y18, .string y19, .bool y20, .int .i64 y21, .int .i64 y22, .int .i64 y23, .string y24, .slice A25 y25.length cap25] _ R7 HR7.out _ (HHs7.out.below hb') HO7.out HLn7.out).mono ?_
      rintro e W1 ⟨rfl, hr⟩
      exact hK.out _ _ hr (yield_val rfl rfl)
    refine Steps.cons (fun a W hb hf hG K hK => ?_) ?_
    · have hb' : Below wb.heap.size wb W := ((Below.refl _ _).drew).trans hb
      have e38 := tmp_of (known_val (hG.out 38 (by kernel_rfl)) (u := .string (mkb P6)) rfl)
      have e41 := tmp_of (known_val (hG.out 41 (by kernel_rfl)) (u := .string (mkb R7)) rfl)
      have sa := SA7.out
      have sc := SC7.out
      go_simp
      exact hK.out _ _ (Below.refl _ _) (yield_val rfl rfl)
    refine Steps.cons (fun a W hb hf hG K hK => ?_) ?_
    · have hb' : Below wb.heap.size wb W := ((Below.refl _ _).drew).trans hb
      have e1 : a.tmps[1]?.getD undef = .pointer (some ⟨w.heap.size, 0, none⟩) := tmp_of ((hf.out 1 (by kernel_rfl)).trans rfl)
      go_simp
      exact hK.out _ _ (Below.refl _ _) (yield_val rfl rfl)
    refine Steps.cons (fun a W hb hf hG K hK => ?_) ?_
    · have hb' : Below wb.heap.size wb W := ((Below.refl _ _).drew).trans hb
      have e43 := tmp_of (known_val (hG.out 43 (by kernel_rfl)) (u := .pointer (some ⟨w.heap.size, 26, none⟩)) rfl)
      have c26 := keep1 Q26.out hb'
      go_simp
      exact hK.out _ _ (Below.refl _ _) (yield_val rfl rfl)
    refine Steps.cons (fun a W hb hf hG K hK => ?_) ?_
    · have hb' : Below wb.heap.size wb W := ((Below.refl _ _).drew).trans hb
      have e1 : a.tmps[1]?.getD undef = .pointer (some ⟨w.heap.size, 0, none⟩) := tmp_of ((hf.out 1 (by kernel_rfl)).trans rfl)
      go_simp
      exact hK.out _ _ (Below.refl _ _) (yield_val rfl rfl)
    refine Steps.cons (fun a W hb hf hG K hK => ?_) ?_
    · have hb' : Below wb.heap.size wb W := ((Below.refl _ _).drew).trans hb
      have e45 := tmp_of (known_val (hG.out 45 (by kernel_rfl)) (u := .pointer (some ⟨w.heap.size, 27, none⟩)) rfl)
      have c27 := keep1 Q27.out hb'
      go_simp
      exact hK.out _ _ (Below.refl _ _) (yield_val rfl rfl)
    refine Steps.cons (fun a W hb hf hG K hK => ?_) ?_
    · have hb' : Below wb.heap.size wb W := ((Below.refl _ _).drew).trans hb
      have e44 := tmp_of (known_val (hG.out 44 (by kernel_rfl)) (u := .int .i64 y26) rfl)
      have e46 := tmp_of (known_val (hG.out 46 (by kernel_rfl)) (u := .int .i64 y27) rfl)
      go_simp
      exact hK.out _ _ ((Below.refl _ _).alloc (Nat.le_refl _) _) (yield_row rfl rfl ⟨_, _, rfl, rowB (by first | rfl | simp) rfl⟩)
    refine Steps.cons (fun a W hb hf hG K hK => ?_) ?_
    · have hb' : Below wb.heap.size wb W := ((Below.refl _ _).drew).trans hb
      obtain ⟨qr, cr, er, hrow⟩ := (hG.out 47 (by kernel_rfl)).2 [y26, y27] rfl
      have e47 := tmp_of er
      simp only [List.length_cons, List.length_nil] at e47
      go_simp
      refine (nums_at [y26, y27] R8 HR8.out 2 rfl _ _ _ (by decide) HF8.out hrow).mono ?_
      rintro e W1 ⟨rfl, hr⟩
      exact hK.out _ _ hr (yield_val rfl rfl)
    refine Steps.cons (fun a W hb hf hG K hK => ?_) ?_
    · have hb' : Below wb.heap.size wb W := ((Below.refl _ _).drew).trans hb
      have e42 := tmp_of (known_val (hG.out 42 (by kernel_rfl)) (u := .string (mkb P7)) rfl)
      have e48 := tmp_of (known_val (hG.out 48 (by kernel_rfl)) (u := .string (mkb R8)) rfl)
      have sa := SA8.out
      have sc := SC8.out
      go_simp
      exact hK.out _ _ (Below.refl _ _) (yield_val rfl rfl)
    refine Steps.cons (fun a W hb hf hG K hK => ?_) ?_
    · have hb' : Below wb.heap.size wb W := ((Below.refl _ _).drew).trans hb
      have e1 : a.tmps[1]?.getD undef = .pointer (some ⟨w.heap.size, 0, none⟩) := tmp_of ((hf.out 1 (by kernel_rfl)).trans rfl)
      go_simp
      exact hK.out _ _ (Below.refl _ _) (yield_val rfl rfl)
    refine Steps.cons (fun a W hb hf hG K hK => ?_) ?_
    · have hb' : Below wb.heap.size wb W := ((Below.refl _ _).drew).trans hb
      have e50 := tmp_of (known_val (hG.out 50 (by kernel_rfl)) (u := .pointer (some ⟨w.heap.size, 28, none⟩)) rfl)
      have c28 := keep1 Q28.out hb'
      go_simp
      exact hK.out _ _ (Below.refl _ _) (yield_val rfl rfl)
    refine Steps.cons (fun a W hb hf hG K hK => ?_) ?_
    · have hb' : Below wb.heap.size wb W := ((Below.refl _ _).drew).trans hb
      have e51 := tmp_of (known_val (hG.out 51 (by kernel_rfl)) (u := .string y28) rfl)
      go_simp
      refine (text_ref' y28 R9 HR9.out _ HSZ9.out).mono ?_
      rintro e W1 ⟨rfl, hr⟩
      exact hK.out _ _ hr (yield_val rfl rfl)
    refine Steps.cons (fun a W hb hf hG K hK => ?_) ?_
    · have hb' : Below wb.heap.size wb W := ((Below.refl _ _).drew).trans hb
      have e49 := tmp_of (known_val (hG.out 49 (by kernel_rfl)) (u := .string (mkb P8)) rfl)
      have e52 := tmp_of (known_val (hG.out 52 (by kernel_rfl)) (u := .string (mkb R9)) rfl)
      have sa := SA9.out
      have sc := SC9.out
      go_simp
      exact hK.out _ _ (Below.refl _ _) (yield_val rfl rfl)
    refine Steps.cons (fun a W hb hf hG K hK => ?_) ?_
    · have hb' : Below wb.heap.size wb W := ((Below.refl _ _).drew).trans hb
      have e1 : a.tmps[1]?.getD undef = .pointer (some ⟨w.heap.size, 0, none⟩) := tmp_of ((hf.out 1 (by kernel_rfl)).trans rfl)
      go_simp
      exact hK.out _ _ (Below.refl _ _) (yield_val rfl rfl)
    refine Steps.cons (fun a W hb hf hG K hK => ?_) ?_
    · have hb' : Below wb.heap.size wb W := ((Below.refl _ _).drew).trans hb
      have e54 := tmp_of (known_val (hG.out 54 (by kernel_rfl)) (u := .pointer (some ⟨w.heap.size, 29, none⟩)) rfl)
      have c29 := keep1 Q29.out hb'
      go_simp
      exact hK.out _ _ (Below.refl _ _) (yield_val rfl rfl)
    refine Steps.cons (fun a W hb hf hG K hK => ?_) ?_
    · have hb' : Below wb.heap.size wb W := ((Below.refl _ _).drew).trans hb
      have e55 := tmp_of (known_val (hG.out 55 (by kernel_rfl)) (u := .int .i64 y29) rfl)
      go_simp
      refine (num_ref' y29 R10 HR10.out _ HF10.out).mono ?_
      rintro e W1 ⟨rfl, hr⟩
      exact hK.out _ _ hr (yield_val rfl rfl)
    refine Steps.cons (fun a W hb hf hG K hK => ?_) ?_
    · have hb' : Below wb.heap.size wb W := ((Below.refl _ _).drew).trans hb
      have e53 := tmp_of (known_val (hG.out 53 (by kernel_rfl)) (u := .string (mkb P9)) rfl)
      have e56 := tmp_of (known_val (hG.out 56 (by kernel_rfl)) (u := .string (mkb R10)) rfl)
      have sa := SA10.out
      have sc := SC10.out
      go_simp
      exact hK.out _ _ (Below.refl _ _) (yield_val rfl rfl)
    refine Steps.cons (fun a W hb hf hG K hK => ?_) ?_
    · have hb' : Below wb.heap.size wb W := ((Below.refl _ _).drew).trans hb
      have e57 := tmp_of (known_val (hG.out 57 (by kernel_rfl)) (u := .string (mkb P10)) rfl)
      go_simp
      exact hK.out _ _ (Below.refl _ _) (yield_val rfl rfl)
    exact trivial
  · intro a' W hb hd hk
    have e2 := tmp_of (known_val (hk 55 _ 2 rfl rfl) (u := .string (mkb P10)) rfl)
    have hb' : Below wb.heap.size wb W := ((Below.refl _ _).drew).trans hb
    clear hk hb
    have HB9 := Lib.hid hb'
    clear hb'
    go_wp2_with fail
    refine bodyPost_ret (v := .string (mkb P10)) (by simp [results, Try.results22, e2]) hd ⟨rfl, below_then' HBB.out HB9.out⟩
theorem command_ref (x : tCommand.T) (cs : List Value) (ok : Nat → Prop) (w : World) (hH : Holds w ok tCommand x cs) (hok : tCommand.cod.ok x) (hlen : (tCommand.cod.enc x).length ≤ 68719476736) :
    Calls Try.prog 22 #[.agg cs.toArray] w fun e w' => e = .returned (.string (mkb (tCommand.cod.enc x))) ∧ Below w.heap.size w w' := by
  obtain ⟨y0, ⟨⟨y1, ⟨y2, y3⟩⟩, ⟨⟨y4, ⟨y5, y6⟩⟩, ⟨y7, ⟨y8, ⟨y9, ⟨⟨y10, ⟨y11, ⟨y12, ⟨y13, y14⟩⟩⟩⟩, ⟨⟨y15, ⟨⟨y16, ⟨y17, ⟨y18, y19⟩⟩⟩, ⟨y20, ⟨y21, ⟨⟨y22, ⟨y23, y24⟩⟩, y25⟩⟩⟩⟩⟩, ⟨⟨y26, y27⟩, ⟨y28, y29⟩⟩⟩⟩⟩⟩⟩⟩⟩⟩ := x
  exact command_refL y0 y1 y2 y3 y4 y5 y6 y7 y8 y9 y10 y11 y12 y13 y14 y15 y16 y17 y18 y19 y20 y21 y22 y23 y24 y25 y26 y27 y28 y29 cs ok w hH hok hlen
end Go.Proofs.Ytlcgkcmicklihaa.Wire
