/- The walk of the law ClocksPlays: for all bounds and ticks it returns true. -/
import Derived.Test.YtkpigklcbigfdaaRef
import Derived.Test.YtkpigklcbigfdaaFair
namespace Go.Proofs.Ytkpigklcbigfdaa.Clk
set_option linter.unusedVariables false
set_option linter.unusedSimpArgs false
open Go.RowKit Go.Proofs.YtkpigklcbigfdaaW.PrintWords Go.Proofs.YtkpigklcbigfdaaW.PrintLast Go.Proofs.YtkpigklcbigfdaaW.PrintMore Go.Proofs.Ytkpigklcbigfdaa.Opened
attribute [local go_sem] max2_int min2_int max_two min_two max_three min_three max_four min_four
theorem plays_bad (n most : Int) (A : Option Addr) (l : List (Int × Int)) (c : Nat) (W : World) (hb : n < 1 ∨ 5 < n ∨ most < 1 ∨ 1073741824 < most) :
    Calls Try.prog 3 #[.int .i64 n, .int .i64 most, .slice A l.length c] W fun e w' => e = .returned (.bool true) ∧ Below W.heap.size W w' := by
  have HN := Lib.hid (new_bad n most W hb)
  have hcase : decide (400 < (l.length : Int)) = true ∨ (decide (400 < (l.length : Int)) = false ∧ ((decide (n < 1) = true) ∨ (decide (n < 1) = false ∧ decide (5 < n) = true) ∨ (decide (n < 1) = false ∧ decide (5 < n) = false ∧ decide (most < 1) = true) ∨ (decide (n < 1) = false ∧ decide (5 < n) = false ∧ decide (most < 1) = false ∧ decide (1073741824 < most) = true))) := by
    simp only [decide_eq_true_eq, decide_eq_false_iff_not]
    omega
  clear hb
  rcases hcase with d1 | ⟨d1, e1 | ⟨e1, e2⟩ | ⟨e1, e2, e3⟩ | ⟨e1, e2, e3, e4⟩⟩
  all_goals
    go_enter Try.func3, Try.ntmps3
    go_wp2_with fail
    refine HN.out.mono ?_
    rintro e w1 ⟨rfl, rfl⟩
    have hB := Below.refl w1.heap.size w1
    go_wp2_with (go_at_call 8; refine (awake_calls _).mono ?_; rintro e w2 ⟨rfl, hb2⟩; have hB2 := hB.trans (hb2.mono hB.size); clear hB hb2; have hB := hB2; clear hB2)
    go_ret
    exact ⟨rfl, hB⟩
theorem plays_long (n most : Int) (A : Option Addr) (l : List (Int × Int)) (c : Nat) (W : World) (h0 : 1 ≤ n) (h1 : n ≤ 5) (m1 : 1 ≤ most) (m2 : most ≤ 1073741824) (hl : 400 < l.length) :
    Calls Try.prog 3 #[.int .i64 n, .int .i64 most, .slice A l.length c] W fun e w' => e = .returned (.bool true) ∧ Below W.heap.size W w' := by
  have d1 : decide (400 < (l.length : Int)) = true := decide_eq_true (by omega)
  go_enter Try.func3, Try.ntmps3
  go_wp2_with fail
  refine (new_calls n most W h0 h1 m1 m2).mono ?_
  rintro e w1 ⟨rfl, rfl⟩
  have hB := (Below.refl W.heap.size W).alloc (Nat.le_refl _) (.cells #[.int .i64 0, .int .i64 0, .int .i64 0, .int .i64 0, .int .i64 0, .int .i64 n, .int .i64 most] 38)
  generalize W.alloc (.cells #[.int .i64 0, .int .i64 0, .int .i64 0, .int .i64 0, .int .i64 0, .int .i64 n, .int .i64 most] 38) = w2 at *
  go_wp2_with (go_at_call 8; refine (awake_calls _).mono ?_; rintro e w2 ⟨rfl, hb2⟩; have hB2 := hB.trans (hb2.mono hB.size); clear hB hb2; have hB := hB2; clear hB2)
  go_ret
  exact ⟨rfl, hB⟩
theorem info3 : (Try.prog.info? 3).map (fun i => (i.zero, i.size, i.bytes)) = some (some (.int .i64 0), 1, 8) := by kernel_rfl
set_option maxRecDepth 100000 in
set_option maxHeartbeats 4000000 in
theorem plays_walk (n most : Int) (A : Option Addr) (l : List (Int × Int)) (c : Nat) (W : World) (h : Kd.C kTick W A l.length l) (hc : l.length ≤ c) (h0 : 1 ≤ n) (h1 : n ≤ 5) (m1 : 1 ≤ most) (m2 : most ≤ 1073741824) (hl : l.length ≤ 400) :
    Calls Try.prog 3 #[.int .i64 n, .int .i64 most, .slice A l.length c] W fun e w' => e = .returned (.bool true) ∧ Below W.heap.size W w' := by
  have H := Lib.hid h
  have HI := Lib.hid info3
  clear h
  obtain ⟨m, rfl⟩ : ∃ m : Nat, n = (m : Int) := ⟨n.toNat, by omega⟩
  have d1 : decide (400 < (l.length : Int)) = false := decide_eq_false (by omega)
  have e1 : decide ((m : Int) < 1) = false := decide_eq_false (by omega)
  have e2 : decide (5 < (m : Int)) = false := decide_eq_false (by omega)
  have e3 : decide (most < 1) = false := decide_eq_false (by omega)
  have e4 : decide (1073741824 < most) = false := decide_eq_false (by omega)
  go_enter Try.func3, Try.ntmps3
  go_wp2_with fail
  refine (new_calls _ most W h0 h1 m1 m2).mono ?_
  rintro e w1 ⟨rfl, rfl⟩
  have p0 := At.new (Nat.le_refl _) (Below.refl W.heap.size W) _ most h0 h1 m1 m2
  generalize W.alloc (.cells #[.int .i64 0, .int .i64 0, .int .i64 0, .int .i64 0, .int .i64 0, .int .i64 (m : Int), .int .i64 most] 38) = w2 at *
  have P0 := Lib.hid p0
  clear p0
  have h15 : (m : Int).toNat * 8 ≤ 281474976710656 := by omega
  have hm0 : (0 : Int) ≤ (m : Int) := by omega
  go_wp2_with (first | (go_at_call 8; refine (awake_calls _).mono ?_; rintro e w3 ⟨rfl, hb3⟩) | (at_make; refine Kd.R_make (Kd.int .i64) (w0 := w3) w3.heap.size 3 rfl rfl 28 (.tmp 54) (.tmp 54) rfl (m : Int) rfl rfl Try.underlying28 (.int .i64 0) 8 HI.out rfl (by decide) (by decide) 0 (ok := fun _ => True) (okp := fun _ => False) rfl (fun _ h => h.elim) trivial hm0 h15 (Below.refl _ _) (Nat.le_refl _) ?_; intro v9 w4 hR hB hG hat))
  have p1 := P0.out.next hb3
  clear P0 hb3
  generalize hg : W.heap.size = g at *
  have HW := Lib.hid hg
  have HP := Lib.hid p1
  have hgl := p1.lt
  clear hg p1
  have hlen : l.length ≤ 9223372036854775807 := by omega
  obtain ⟨r, cap, rfl, hrB, hrc, hrow⟩ := row_new (n := m) hR (by omega)
  have p2 := HP.out.next (hB.mono (Nat.le_refl _))
  have hrl := hrow.lt
  have hgr : g ≠ r := by omega
  have HP2 := Lib.hid p2
  have HRow := Lib.hid hrow
  clear hR hB hG hat HP p2 hrow
  go_wp2_with fail
  go_loopw [58] (fun v58 wr => ∃ (k : Nat) (xs : List Int), k ≤ l.length ∧ v58 = .int .i64 (k : Int) ∧ xs.length = m ∧ At W g g xs most wr ∧ Row r xs wr) (fun v58 _ => l.length - (intOf v58).toNat)
  case atStart => exact ⟨0, _, Nat.zero_le _, rfl, by simp, HP2.out, HRow.out⟩
  case round =>
    clear HP2 HRow
    obtain ⟨k, xs, hk, rfl, hxn, hA, hRow⟩ := hrel
    by_cases hlt : k < l.length
    · obtain ⟨ad, rfl, c0, c1⟩ := tick_at H.out (HW.out ▸ hA.below) k hlt
      generalize l[k] = o at *
      obtain ⟨i, d⟩ := o
      simp only [] at c0 c1
      have hA1 := hA.next ((Below.refl _ _).alloc (Nat.le_refl _) (.cells #[.int .i64 i, .int .i64 d] 29))
      have hRow1 := hRow.next ((Below.refl _ _).alloc (Nat.le_refl _) (.cells #[.int .i64 i, .int .i64 d] 29))
      have hgl2 := hA.lt
      have hrl2 := hRow.lt
      have hbx := blk_new wr (.cells #[.int .i64 i, .int .i64 d] 29)
      have hG := hA.good
      have hRef := ref_calls hRow1 hG (c := cap) (by omega) i d
      rw [hxn] at hRef
      have HRef := Lib.hid hRef
      have HA1 := Lib.hid hA1
      have HR1 := Lib.hid hRow1
      clear hA hA1 hRow hRow1 hRef
      go_wp2_with fail
      generalize wr.alloc (.cells #[.int .i64 i, .int .i64 d] 29) = w5 at *
      generalize wr.heap.size = b at *
      obtain ⟨x0, x1⟩ : w5.cell? ⟨b, 0, none⟩ = some (.int .i64 i) ∧ w5.cell? ⟨b, 1, none⟩ = some (.int .i64 d) := ⟨(blk_cell hbx 0).trans rfl, (blk_cell hbx 1).trans rfl⟩
      refine HRef.out.mono ?_
      rintro e w6 ⟨rfl, rfl⟩
      go_wp2_with fail
      refine (tick_calls HA1.out i d).mono ?_
      rintro e w7 ⟨rfl, hA2, hf2⟩
      have hbx2 := hf2.blk hbx (by omega)
      have hR2 := HR1.out.fr hf2 (by omega)
      clear x0 x1
      obtain ⟨x0, x1⟩ : w7.cell? ⟨b, 0, none⟩ = some (.int .i64 i) ∧ w7.cell? ⟨b, 1, none⟩ = some (.int .i64 d) := ⟨(blk_cell hbx2 0).trans rfl, (blk_cell hbx2 1).trans rfl⟩
      have ha0 := (amt_range hG i d).1
      have ha1 := (amt_range hG i d).2
      have hyn : (ticked xs most i d).length = m := by rw [ticked_length]; exact hxn
      have HG := Lib.hid hG
      by_cases hap : 0 < amt xs most i d
      · have hi0 : 0 ≤ i ∧ i < xs.length := by
          rcases ha1 with h | h
          · omega
          · exact ⟨h.1, h.2.1⟩
        obtain ⟨j, rfl⟩ : ∃ j : Nat, i = (j : Int) := ⟨i.toNat, by omega⟩
        have hj : j < xs.length := by omega
        have hT : ticked xs most (j : Int) d = xs.set j (xs[j] + amt xs most (j : Int) d) := by
          unfold ticked
          rw [if_pos ⟨by omega, by omega⟩, rd_nat xs j hj, Int.toNat_natCast]
        have cj := hR2.cell j hj
        have fj := hR2.free j
        have hxr := hG.lo _ (List.getElem_mem hj)
        have hxr2 := hG.hi _ (List.getElem_mem hj)
        have hup : amt xs most (j : Int) d ≤ 1125899906842624 := by
          rcases ha1 with h | h
          · omega
          · have := h.2.2.2.2.2; rw [rd_nat xs j hj] at this; omega
        have hput := hR2.put j hj (xs[j] + amt xs most (j : Int) d)
        have hAput := hA2.fr ((Fr.refl w7 (fun k => k = r)).setCell (p := ⟨r, j, none⟩) (.inl rfl) (.int .i64 (xs[j] + amt xs most (j : Int) d))) (fun k hk => by have := HA1.out.base; omega) (by omega)
        rw [← hT] at hput
        have hjm : (j : Int) < (m : Int) := by omega
        have hj0 : (0 : Int) ≤ (j : Int) := by omega
        have hbr : (b = r) = False := eq_false (by omega)
        have k0 : decide (0 < amt xs most (j : Int) d) = true := decide_eq_true hap
        generalize ticked xs most (j : Int) d = ys at *
        generalize amt xs most (j : Int) d = a at *
        generalize xs[j] = x at *
        have HA9 := Lib.hid hAput
        have HR9 := Lib.hid hput
        clear hA2 hf2 hR2 hput hAput hT HRef HA1 HR1 hG ha1
        go_wp2_with fail
        generalize w7.setCell ⟨r, j, none⟩ (.int .i64 (x + a)) = wf at *
        go_loopw [89] (fun v89 wr => ∃ (j : Nat), j ≤ m ∧ v89 = .int .i64 (j : Int) ∧ At W g g ys most wr ∧ Row r ys wr) (fun v89 _ => m - (intOf v89).toNat)
        case atStart => exact ⟨0, Nat.zero_le _, rfl, HA9.out, HR9.out⟩
        case round =>
          clear HA9 HR9
          obtain ⟨j, hj, rfl, hA9, hR9⟩ := hrel
          by_cases hlt2 : j < m
          · have hjl : j < ys.length := by omega
            have cj := fun nq => (hR9.next (pw_below_drewN (Below.refl _ _) nq)).cell j hjl
            have hN := fun nq => now_calls (hA9.next (pw_below_drewN (Below.refl _ _) nq)) (j : Int)
            simp only [nowOf_nat j hjl] at hN
            have cj0 := hR9.cell j hjl
            generalize ys[j] = z at *
            have HN := Lib.hid hN
            have HA10 := Lib.hid (fun nq => hA9.next (pw_below_drewN (Below.refl _ _) nq))
            have HR10 := Lib.hid (fun nq => hR9.next (pw_below_drewN (Below.refl _ _) nq))
            have HC := Lib.hid cj
            clear hN cj hA9 hR9
            have hjm : (j : Int) < (m : Int) := by omega
            have hj0 : (0 : Int) ≤ (j : Int) := by omega
            go_wp2_with fail
            go_quiet ((go_at_call 11; refine Calls.quiet_of_same (HN.out _)))
            go_wp2_with fail
            go_roundw
            case rel => exact ⟨j + 1, by omega, by go_num, HA10.out _, HR10.out _⟩
            case measure => simp [intOf]; omega
          · obtain rfl : m = j := by omega
            have HA10 := Lib.hid hA9
            have HR10 := Lib.hid hR9
            clear hA9 hR9
            go_wp2_with fail
            go_roundw
            case rel => exact ⟨k + 1, ys, by omega, by go_num, hyn, HA10.out, HR10.out⟩
            case measure => simp [intOf]; omega
      · have hz : amt xs most i d = 0 := by omega
        have hT : ticked xs most i d = xs := by
          unfold ticked
          split
          · rename_i hc
            obtain ⟨j, rfl⟩ : ∃ j : Nat, i = (j : Int) := ⟨i.toNat, by omega⟩
            rw [hz, Int.add_zero, rd_nat xs j (by omega), Int.toNat_natCast]
            exact List.set_getElem_self (by omega)
          · rfl
        rw [hT] at hA2 hyn
        rw [hz]
        obtain ⟨ys, rfl⟩ : ∃ ys, ys = xs := ⟨_, rfl⟩
        obtain ⟨wf, rfl⟩ : ∃ wf, wf = w7 := ⟨_, rfl⟩
        have HA9 := Lib.hid hA2
        have HR9 := Lib.hid hR2
        clear hA2 hf2 hR2 HRef HA1 HR1 hG ha1 hT
        go_wp2_with fail
        go_loopw [89] (fun v89 wr => ∃ (j : Nat), j ≤ m ∧ v89 = .int .i64 (j : Int) ∧ At W g g ys most wr ∧ Row r ys wr) (fun v89 _ => m - (intOf v89).toNat)
        case atStart => exact ⟨0, Nat.zero_le _, rfl, HA9.out, HR9.out⟩
        case round =>
          clear HA9 HR9
          obtain ⟨j, hj, rfl, hA9, hR9⟩ := hrel
          by_cases hlt2 : j < m
          · have hjl : j < ys.length := by omega
            have cj := fun nq => (hR9.next (pw_below_drewN (Below.refl _ _) nq)).cell j hjl
            have hN := fun nq => now_calls (hA9.next (pw_below_drewN (Below.refl _ _) nq)) (j : Int)
            simp only [nowOf_nat j hjl] at hN
            have cj0 := hR9.cell j hjl
            generalize ys[j] = z at *
            have HN := Lib.hid hN
            have HA10 := Lib.hid (fun nq => hA9.next (pw_below_drewN (Below.refl _ _) nq))
            have HR10 := Lib.hid (fun nq => hR9.next (pw_below_drewN (Below.refl _ _) nq))
            have HC := Lib.hid cj
            clear hN cj hA9 hR9
            have hjm : (j : Int) < (m : Int) := by omega
            have hj0 : (0 : Int) ≤ (j : Int) := by omega
            go_wp2_with fail
            go_quiet ((go_at_call 11; refine Calls.quiet_of_same (HN.out _)))
            go_wp2_with fail
            go_roundw
            case rel => exact ⟨j + 1, by omega, by go_num, HA10.out _, HR10.out _⟩
            case measure => simp [intOf]; omega
          · obtain rfl : m = j := by omega
            have HA10 := Lib.hid hA9
            have HR10 := Lib.hid hR9
            clear hA9 hR9
            go_wp2_with fail
            go_roundw
            case rel => exact ⟨k + 1, ys, by omega, by go_num, hyn, HA10.out, HR10.out⟩
            case measure => simp [intOf]; omega
    · obtain rfl : k = l.length := by omega
      have hN1 := now_calls hA (m : Int)
      have hN2 := now_calls hA (-1 : Int)
      have z1 : nowOf xs (m : Int) = 0 := by unfold nowOf; rw [if_neg (by omega)]
      have z2 : nowOf xs (-1 : Int) = 0 := by unfold nowOf; rw [if_neg (by omega)]
      rw [z1] at hN1
      rw [z2] at hN2
      have HN1 := Lib.hid hN1
      have HN2 := Lib.hid hN2
      have hbl := HW.out ▸ hA.below
      clear hN1 hN2 z1 z2 hA hRow
      go_wp2_with fail
      refine HN1.out.mono ?_
      rintro e w8 ⟨rfl, rfl⟩
      go_wp2_with fail
      refine HN2.out.mono ?_
      rintro e w8 ⟨rfl, rfl⟩
      go_wp2_with fail
      go_ret
      exact ⟨rfl, hbl⟩
end Go.Proofs.Ytkpigklcbigfdaa.Clk
