/- The walk of the law ClocksNear: for all bounds and ticks it returns true. -/
import Derived.Test.YtkpigklcbigfdaaOpen
namespace Go.Proofs.Ytkpigklcbigfdaa.Clk
set_option linter.unusedVariables false
set_option linter.unusedSimpArgs false
open Go.RowKit Go.Proofs.YtkpigklcbigfdaaW.PrintWords Go.Proofs.YtkpigklcbigfdaaW.PrintLast Go.Proofs.YtkpigklcbigfdaaW.PrintMore Go.Proofs.Ytkpigklcbigfdaa.Opened
attribute [local go_sem] max2_int min2_int max_two min_two max_three min_three max_four min_four
theorem near_bad (n most : Int) (A : Option Addr) (l : List (Int × Int)) (c : Nat) (W : World) (hb : n < 1 ∨ 5 < n ∨ most < 1 ∨ 1073741824 < most) :
    Calls Try.prog 4 #[.int .i64 n, .int .i64 most, .slice A l.length c] W fun e w' => e = .returned (.bool true) ∧ Below W.heap.size W w' := by
  go_enter Try.func4, Try.ntmps4
  go_wp2_with fail
  refine (new_bad n most W hb).mono ?_
  rintro e w1 ⟨rfl, rfl⟩
  have hB := Below.refl w1.heap.size w1
  go_wp2_with (go_at_call 8; refine (awake_calls _).mono ?_; rintro e w2 ⟨rfl, hb2⟩; have hB2 := hB.trans (hb2.mono hB.size); clear hB hb2; have hB := hB2; clear hB2)
  go_ret
  exact ⟨rfl, hB⟩
theorem near_long (n most : Int) (A : Option Addr) (l : List (Int × Int)) (c : Nat) (W : World) (h0 : 1 ≤ n) (h1 : n ≤ 5) (m1 : 1 ≤ most) (m2 : most ≤ 1073741824) (hl : 400 < l.length) :
    Calls Try.prog 4 #[.int .i64 n, .int .i64 most, .slice A l.length c] W fun e w' => e = .returned (.bool true) ∧ Below W.heap.size W w' := by
  have d1 : decide (400 < (l.length : Int)) = true := decide_eq_true (by omega)
  go_enter Try.func4, Try.ntmps4
  go_wp2_with fail
  refine (new_calls _ most W h0 h1 m1 m2).mono ?_
  rintro e w1 ⟨rfl, rfl⟩
  have hB := (Below.refl W.heap.size W).alloc (Nat.le_refl _) (.cells #[.int .i64 0, .int .i64 0, .int .i64 0, .int .i64 0, .int .i64 0, .int .i64 n, .int .i64 most] 38)
  generalize W.alloc (.cells #[.int .i64 0, .int .i64 0, .int .i64 0, .int .i64 0, .int .i64 0, .int .i64 n, .int .i64 most] 38) = w2 at *
  go_wp2_with (go_at_call 8; refine (awake_calls _).mono ?_; rintro e w2 ⟨rfl, hb2⟩; have hB2 := hB.trans (hb2.mono hB.size); clear hB hb2; have hB := hB2; clear hB2)
  go_ret
  exact ⟨rfl, hB⟩
theorem nowOf_range {xs : List Int} {most : Int} (h : Good xs most) (i : Int) : 0 ≤ nowOf xs i ∧ nowOf xs i ≤ 1125899906842624 := by
  unfold nowOf
  split
  · rename_i hc
    exact ⟨h.lo _ (rd_mem hc.1 hc.2), h.hi _ (rd_mem hc.1 hc.2)⟩
  · omega
theorem nowOf_ticked {xs : List Int} {most : Int} (h : Good xs most) (i d : Int) : nowOf (ticked xs most i d) i = nowOf xs i + amt xs most i d := by
  unfold nowOf
  rw [ticked_length]
  by_cases hc : 0 ≤ i ∧ i < xs.length
  · rw [if_pos hc, if_pos hc]
    unfold ticked
    rw [if_pos hc]
    obtain ⟨j, rfl⟩ : ∃ j : Nat, i = (j : Int) := ⟨i.toNat, by omega⟩
    rw [rd_nat _ j (by rw [List.length_set]; omega), Int.toNat_natCast, List.getElem_set_self]
  · rw [if_neg hc, if_neg hc, amt_no (by omega)]
    rfl
theorem nowOf_near {xs : List Int} {most : Int} (h : Good xs most) (i k : Int) (hi : 0 ≤ i ∧ i < xs.length) (hk : 0 ≤ k ∧ k < xs.length) : nowOf xs i - nowOf xs k ≤ most := by
  unfold nowOf
  rw [if_pos hi, if_pos hk]
  exact h.near _ (rd_mem hi.1 hi.2) _ (rd_mem hk.1 hk.2)
theorem amt_le {xs : List Int} {most : Int} (h : Good xs most) (i d : Int) : amt xs most i d ≤ max 0 d := by
  obtain ⟨h0, h1 | h1⟩ := amt_range h i d <;> omega
set_option maxRecDepth 100000 in
set_option maxHeartbeats 2000000 in
theorem near_walk (n most : Int) (A : Option Addr) (l : List (Int × Int)) (c : Nat) (W : World) (h : Kd.C kTick W A l.length l) (hc : l.length ≤ c) (h0 : 1 ≤ n) (h1 : n ≤ 5) (m1 : 1 ≤ most) (m2 : most ≤ 1073741824) (hl : l.length ≤ 400) :
    Calls Try.prog 4 #[.int .i64 n, .int .i64 most, .slice A l.length c] W fun e w' => e = .returned (.bool true) ∧ Below W.heap.size W w' := by
  have H := Lib.hid h
  clear h
  obtain ⟨m, rfl⟩ : ∃ m : Nat, n = (m : Int) := ⟨n.toNat, by omega⟩
  have d1 : decide (400 < (l.length : Int)) = false := decide_eq_false (by omega)
  go_enter Try.func4, Try.ntmps4
  go_wp2_with fail
  refine (new_calls _ most W h0 h1 m1 m2).mono ?_
  rintro e w1 ⟨rfl, rfl⟩
  have p0 := At.new (Nat.le_refl _) (Below.refl W.heap.size W) _ most h0 h1 m1 m2
  generalize W.alloc (.cells #[.int .i64 0, .int .i64 0, .int .i64 0, .int .i64 0, .int .i64 0, .int .i64 (m : Int), .int .i64 most] 38) = w2 at *
  have P0 := Lib.hid p0
  clear p0
  go_wp2_with (go_at_call 8; refine (awake_calls _).mono ?_; rintro e w3 ⟨rfl, hb3⟩)
  have p1 := P0.out.next hb3
  clear P0 hb3
  generalize hg : W.heap.size = g at *
  have HW := Lib.hid hg
  clear hg
  have hlen : l.length ≤ 9223372036854775807 := by omega
  go_loopw [35] (fun v35 wr => ∃ (k : Nat) (xs : List Int), k ≤ l.length ∧ v35 = .int .i64 (k : Int) ∧ xs.length = m ∧ At W g g xs most wr) (fun v35 _ => l.length - (intOf v35).toNat)
  case atStart => exact ⟨0, _, Nat.zero_le _, rfl, by simp, p1⟩
  case round =>
    clear p1
    obtain ⟨k, xs, hk, rfl, hxn, hA⟩ := hrel
    by_cases hlt : k < l.length
    · obtain ⟨ad, rfl, c0, c1⟩ := tick_at H.out (HW.out ▸ hA.below) k hlt
      generalize l[k] = o at *
      obtain ⟨i, d⟩ := o
      simp only [] at c0 c1
      have hA1 := hA.next ((Below.refl _ _).alloc (Nat.le_refl _) (.cells #[.int .i64 i, .int .i64 d] 29))
      have hgl := hA.lt
      have hbx := blk_new wr (.cells #[.int .i64 i, .int .i64 d] 29)
      have HA1 := Lib.hid hA1
      have hG := hA.good
      clear hA hA1
      go_wp2_with fail
      generalize wr.alloc (.cells #[.int .i64 i, .int .i64 d] 29) = w4 at *
      generalize wr.heap.size = b at *
      refine (now_calls HA1.out i).mono ?_
      rintro e w5 ⟨rfl, rfl⟩
      obtain ⟨x0, x1⟩ : w5.cell? ⟨b, 0, none⟩ = some (.int .i64 i) ∧ w5.cell? ⟨b, 1, none⟩ = some (.int .i64 d) := ⟨(blk_cell hbx 0).trans rfl, (blk_cell hbx 1).trans rfl⟩
      go_wp2_with fail
      refine (tick_calls HA1.out i d).mono ?_
      rintro e w6 ⟨rfl, hA2, hf2⟩
      have hbx2 := hf2.blk hbx (by omega)
      clear x0 x1
      obtain ⟨x0, x1⟩ : w6.cell? ⟨b, 0, none⟩ = some (.int .i64 i) ∧ w6.cell? ⟨b, 1, none⟩ = some (.int .i64 d) := ⟨(blk_cell hbx2 0).trans rfl, (blk_cell hbx2 1).trans rfl⟩
      have ha0 := (amt_range hG i d).1
      have ha1 := amt_le hG i d
      have hn0 := nowOf_range hG i
      have hn1 := nowOf_range hA2.good i
      have hnt := nowOf_ticked hG i d
      rw [hnt] at hn1
      have HN := now_calls hA2 i
      rw [hnt] at HN
      have hyn : (ticked xs most i d).length = m := by rw [ticked_length]; exact hxn
      generalize ticked xs most i d = ys at *
      generalize amt xs most i d = a at *
      generalize nowOf xs i = q at *
      have e1 : decide (a < 0) = false := decide_eq_false (by omega)
      have e2 : decide ((if (0 : Int) < d then d else 0) < a) = false := decide_eq_false (by split <;> omega)
      have HN2 := Lib.hid HN
      have HA2 := Lib.hid hA2
      clear HN hA2 hnt HA1 hf2 ha1
      go_wp2_with (go_at_call 11; refine HN2.out.mono ?_; rintro e w7 ⟨rfl, rfl⟩)
      all_goals
        clear HN2 e1 e2 ha0 hn0 hn1 hbx hbx2 x0 x1 c0 c1
        have hmm : m ≤ 9223372036854775807 := by omega
        obtain ⟨wf, hwf⟩ : ∃ wf, wf = w7 := ⟨_, rfl⟩
        have HWF := Lib.hid hwf
        clear hwf
        go_loopw [69] (fun v69 wr => ∃ i2 : Nat, i2 ≤ m ∧ v69 = .int .i64 (i2 : Int) ∧ wr = wf) (fun v69 _ => m - (intOf v69).toNat)
        case atStart => exact ⟨0, Nat.zero_le _, rfl, HWF.out.symm⟩
        case round =>
          obtain ⟨i2, hi2, rfl, hwe⟩ := hrel
          obtain rfl := hwe.trans HWF.out
          clear hwe
          by_cases hlt2 : i2 < m
          · go_wp2_with fail
            go_loopw [73] (fun v73 wr => ∃ k2 : Nat, k2 ≤ m ∧ v73 = .int .i64 (k2 : Int) ∧ wr = wf) (fun v73 _ => m - (intOf v73).toNat)
            case atStart => exact ⟨0, Nat.zero_le _, rfl, HWF.out.symm⟩
            case round =>
              obtain ⟨k2, hk2, rfl, hwe⟩ := hrel
              obtain rfl := hwe.trans HWF.out
              clear hwe
              by_cases hlt3 : k2 < m
              · have a1 := Lib.hid (now_calls HA2.out (i2 : Int))
                have a2 := Lib.hid (now_calls HA2.out (k2 : Int))
                have r1 := nowOf_range HA2.out.good (i2 : Int)
                have r2 := nowOf_range HA2.out.good (k2 : Int)
                have r3 := nowOf_near HA2.out.good (i2 : Int) (k2 : Int) ⟨by omega, by omega⟩ ⟨by omega, by omega⟩
                generalize nowOf ys (i2 : Int) = y1 at *
                generalize nowOf ys (k2 : Int) = y2 at *
                have e1 : decide (most < y1 - y2) = false := decide_eq_false (by omega)
                go_wp2_with fail
                refine a1.out.mono ?_
                rintro e w8 ⟨rfl, rfl⟩
                go_wp2_with fail
                refine a2.out.mono ?_
                rintro e w9 ⟨rfl, rfl⟩
                go_wp2_with fail
                go_roundw
                case rel => exact ⟨k2 + 1, by omega, by go_num, HWF.out.symm⟩
                case measure => simp [intOf]; omega
              · obtain rfl : k2 = m := by omega
                go_wp2_with fail
                go_roundw
                case rel => exact ⟨i2 + 1, by omega, by go_num, HWF.out.symm⟩
                case measure => simp [intOf]; omega
          · obtain rfl : i2 = m := by omega
            go_wp2_with fail
            go_roundw
            case rel => exact ⟨k + 1, ys, by omega, by go_num, hyn, HA2.out⟩
            case measure => simp [intOf]; omega
    · obtain rfl : k = l.length := by omega
      have hbl := HW.out ▸ hA.below
      go_wp2_with fail
      go_ret
      exact ⟨rfl, hbl⟩
end Go.Proofs.Ytkpigklcbigfdaa.Clk
