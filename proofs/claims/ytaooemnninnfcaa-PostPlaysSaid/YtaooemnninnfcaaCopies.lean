/- The walk of the law PostCopies: for every list of letters and all numbers it returns true. -/
import Derived.Test.YtaooemnninnfcaaAwake
import Derived.Deep.QuietTactic
import Derived.BigQuiet
namespace Go.Proofs.Ytaooemnninnfcaa.Bag
set_option linter.unusedVariables false
set_option linter.unusedSimpArgs false
open Go.RowKit Go.Proofs.Ytaooemnninnfcaa.PAll Go.Proofs.YtaooemnninnfcaaW.PrintWords Go.Proofs.YtaooemnninnfcaaW.PrintLast Go.Proofs.YtaooemnninnfcaaW.PrintMore

/-- A list of letters that came in, in the slice at A. -/
def Came (W : World) (A : Option Addr) (l : List S28) : Prop := Kd.C k28 W A l.length l
theorem Came.at_ {W w : World} {A : Option Addr} {l : List S28} (h : Came W A l) (hb : Below W.heap.size W w) (i : Nat) (hi : i < l.length) :
    ∃ ad, A = some ad ∧ w.cell? (ad.add (i * 3)) = some (.int .i64 (l[i]).f0) ∧ w.cell? ⟨(ad.add (i * 3)).block, (ad.add (i * 3)).off + 1, none⟩ = some (.int .i64 (l[i]).f1) ∧ w.cell? ⟨(ad.add (i * 3)).block, (ad.add (i * 3)).off + 2, none⟩ = some (.string (l[i]).f2) := by
  obtain ⟨ad, e, h0, h1, h2⟩ := at_T28 h (i : Int) (by omega) (by omega)
  have hrd : rd_T28 l (i : Int) = l[i] := by
    unfold rd_T28
    rw [Int.toNat_natCast, List.getD_eq_getElem?_getD, List.getElem?_eq_getElem hi]
    rfl
  rw [hrd, Int.toNat_natCast] at h0 h1 h2
  exact ⟨ad, e, (hb.cell (World.block_lt_of_cell? W _ h0)).trans h0, (hb.cell (World.block_lt_of_cell? W _ h1)).trans h1, (hb.cell (World.block_lt_of_cell? W _ h2)).trans h2⟩

theorem copies_short (A : Option Addr) (l : List S28) (c : Nat) (i n : Int) (W : World) (ho : decide (300 < (l.length : Int)) = true ∨ decide (300 < (l.length : Int)) = false ∧ decide (100 < n) = true) :
    Calls Try.prog 5 #[.slice A l.length c, .int .i64 i, .int .i64 n] W fun e w' => e = .returned (.bool true) ∧ Below W.heap.size W w' := by
  have hb := Below.refl W.heap.size W
  rcases ho with h1 | ⟨h1, h2⟩
  all_goals
    go_enter Try.func5, Try.ntmps5
    go_wp2_with (go_at_call 7; refine (awake_calls _).mono ?_; rintro e w1 ⟨rfl, hb2⟩; have hb1 := hb.trans (hb2.mono hb.size); clear hb hb2; have hb := hb1; clear hb1)
    go_ret
    exact ⟨rfl, hb⟩
theorem copies_walk (A : Option Addr) (l : List S28) (c : Nat) (i n : Int) (W : World) (h : Came W A l) (hl : l.length ≤ 300) (hn : n ≤ 100) :
    Calls Try.prog 5 #[.slice A l.length c, .int .i64 i, .int .i64 n] W fun e w' => e = .returned (.bool true) ∧ Below W.heap.size W w' := by
  have H := Lib.hid h
  clear h
  have d1 : decide (300 < (l.length : Int)) = false := decide_eq_false (by omega)
  have d2 : decide (100 < n) = false := decide_eq_false (by omega)
  go_enter Try.func5, Try.ntmps5
  go_wp2_with (first | (go_at_call 7; refine (awake_calls _).mono ?_; rintro e w1 ⟨rfl, hb1⟩) | (go_at_call 8; refine (new_calls _ _ (Nat.le_refl _)).mono ?_; rintro e w2 ⟨rfl, rfl⟩))
  have h0 := new_now W w1 W.heap.size hb1.size hb1
  generalize w1.alloc (.cells #[.slice none 0 0] 44) = w2 at *
  generalize w1.heap.size = P at *
  clear hb1
  have hlen : l.length ≤ 9223372036854775807 := by omega
  go_loopw [28] (fun v28 wr => ∃ (k : Nat) (v : Value), k ≤ l.length ∧ v28 = .int .i64 (k : Int) ∧ Now W W.heap.size P v (l.take k) wr) (fun v28 _ => l.length - (intOf v28).toNat)
  case atStart => exact ⟨0, _, Nat.zero_le _, rfl, h0⟩
  case round =>
    obtain ⟨k, v, hk, rfl, hN⟩ := hrel
    clear h0
    by_cases hlt : k < l.length
    · obtain ⟨ad, rfl, c0, c1, c2⟩ := H.out.at_ hN.below k hlt
      have hgl := hN.bag.lt
      have hN2 := hN.next ((Below.refl _ _).alloc (Nat.le_refl _) (.cells #[.int .i64 (l[k]).f0, .int .i64 (l[k]).f1, .string (l[k]).f2] 28))
      have htk : l.take (k + 1) = l.take k ++ [l[k]] := List.take_succ_eq_append_getElem hlt
      have HTK := Lib.hid htk
      have hS := now_send hN2 l[k] (by rw [List.length_take]; omega)
      simp only [lv] at hS
      have HS := Lib.hid hS
      clear htk hS hN2 hN
      generalize l[k] = x at *
      go_wp2_with (go_at_call 9; refine HS.out.mono ?_; rintro e w3 ⟨rfl, v3, hN3, _⟩)
      go_roundw
      case rel => exact ⟨k + 1, v3, by omega, by go_num, by rw [HTK.out]; exact hN3⟩
      case measure => simp [intOf]; omega
    · obtain rfl : k = l.length := by omega
      rw [List.take_length] at hN
      obtain ⟨wo, rfl⟩ : ∃ wo : World, wo = wr := ⟨_, rfl⟩
      by_cases hn0 : 0 < n
      · obtain ⟨m, rfl⟩ : ∃ m : Nat, n = (m : Int) := ⟨n.toNat, by omega⟩
        go_wp2_with fail
        go_loopw [38] (fun v38 wr => ∃ (j : Nat), j ≤ m ∧ v38 = .int .i64 (j : Int) ∧ Now W W.heap.size P v l wr) (fun v38 _ => m - (intOf v38).toNat)
        case atStart => exact ⟨0, Nat.zero_le _, rfl, hN⟩
        case round =>
          obtain ⟨j, hj, rfl, hN2⟩ := hrel
          clear hN
          by_cases hlt2 : j < m
          · by_cases hin : 0 ≤ i ∧ i < (l.length : Int)
            · obtain ⟨q, rfl⟩ : ∃ q : Nat, i = (q : Int) := ⟨i.toNat, by omega⟩
              have hq : q < l.length := by omega
              have g1 : decide ((0 : Int) ≤ (q : Int)) = true := decide_eq_true (by omega)
              have g2 : decide (q < l.length) = true := decide_eq_true hq
              have g3 : decide ((q : Int) < (l.length : Int)) = true := decide_eq_true (by omega)
              have hC := now_copy hN2 q hq
              simp only [lv] at hC
              have HC := Lib.hid hC
              clear hC
              obtain ⟨ad, rfl, c0, c1, c2⟩ := H.out.at_ hN2.below q hq
              have hlt3 := World.block_lt_of_cell? wr _ c0
              generalize l[q] = x at *
              go_wp2_with (go_at_call 11; refine HC.out.mono ?_; rintro e w3 ⟨rfl, hb3⟩; replace c0 := (hb3.cell hlt3).trans c0; replace c1 := (hb3.cell (p := ⟨(ad.add (q * 3)).block, (ad.add (q * 3)).off + 1, none⟩) hlt3).trans c1; replace c2 := (hb3.cell (p := ⟨(ad.add (q * 3)).block, (ad.add (q * 3)).off + 2, none⟩) hlt3).trans c2; replace hlt3 := Nat.lt_of_lt_of_le hlt3 hb3.size)
              go_quiet (fail)
              go_wp2
              go_roundw
              case rel => exact ⟨j + 1, by omega, by go_num, hN2.next (pw_below_drewN (hb3.alloc hb3.size _) _)⟩
              case measure => simp [intOf]; omega
            · have hC := now_copy_out hN2 i (by omega)
              simp only [lv, z28] at hC
              have HC := Lib.hid hC
              clear hC
              by_cases hneg : i < 0
              · have g1 : decide ((0 : Int) ≤ i) = false := decide_eq_false (by omega)
                go_wp2_with (go_at_call 11; refine HC.out.mono ?_; rintro e w3 ⟨rfl, hb3⟩)
                go_quiet (fail)
                go_wp2
                go_roundw
                case rel => exact ⟨j + 1, by omega, by go_num, hN2.next (pw_below_drewN (hb3.alloc hb3.size _) _)⟩
                case measure => simp [intOf]; omega
              · have g1 : decide ((0 : Int) ≤ i) = true := decide_eq_true (by omega)
                have g3 : decide (i < (l.length : Int)) = false := decide_eq_false (by omega)
                go_wp2_with (go_at_call 11; refine HC.out.mono ?_; rintro e w3 ⟨rfl, hb3⟩)
                go_quiet (fail)
                go_wp2
                go_roundw
                case rel => exact ⟨j + 1, by omega, by go_num, hN2.next (pw_below_drewN (hb3.alloc hb3.size _) _)⟩
                case measure => simp [intOf]; omega
          · have HL := Lib.hid (now_len hN2)
            go_wp2_with (go_at_call 14; refine HL.out.mono ?_; rintro e w3 ⟨rfl, rfl⟩)
            go_ret
            exact ⟨rfl, hN2.below⟩
      · have g0 : decide (0 < n) = false := decide_eq_false (by omega)
        go_wp2_with fail
        go_loopw [38] (fun v38 wr => v38 = .int .i64 0 ∧ Now W W.heap.size P v l wr) (fun v38 _ => 0)
        case atStart => exact ⟨rfl, hN⟩
        case round =>
          obtain ⟨rfl, hN2⟩ := hrel
          clear hN
          have HL := Lib.hid (now_len hN2)
          go_wp2_with (go_at_call 14; refine HL.out.mono ?_; rintro e w3 ⟨rfl, rfl⟩)
          go_ret
          exact ⟨rfl, hN2.below⟩
end Go.Proofs.Ytaooemnninnfcaa.Bag
