-- PRINTED BY print.sh 35421559b90ae4d0a3588c463048766b98c2df88dd9212a6774a882060cdf62d: not written by this session
import Derived.Test.YtkpigklcbigfdaaPClocksPlaysx0
namespace Go.Proofs.Ytkpigklcbigfdaa.PClocksPlays
open Go.RowKit Go.Proofs.YtkpigklcbigfdaaW.PrintWords Go.Proofs.YtkpigklcbigfdaaW.PrintLast Go.Proofs.YtkpigklcbigfdaaW.PrintMore
attribute [local go_sem] max2_int min2_int max_two min_two max_three min_three max_four min_four   -- for this text's walks alone
set_option linter.unusedVariables false
set_option linter.unusedSimpArgs false

-- NOT PRINTED: function 7 (clocks_New)

-- NOT PRINTED: function 12 (slices_Min_int_int)

-- NOT PRINTED: function 10 (clocks_Clocks_Tick)

-- NOT PRINTED: function 11 (clocks_Clocks_Now)

-- NOT PRINTED: function 8 (lintellaw08_awake)

/-! ### lintelref08_Tick: function 9 -/
mutual
def lintelref08_Tick.j0 : Nat → List Int → Int → Int → Int → Bool → Option (Int)
  | 0, _, _, _, _, _ => none
  | k + 1, x0, x1, x2, x3, x23 => if x23 = true then (some 0) else (if 0 ≤ x2 then (if x2 < (x0.length : Int) then (lintelref08_Tick.l0 k x0 x1 x2 x3 (rd x0 x2) 0) else (none)) else (none))
def lintelref08_Tick.l0 : Nat → List Int → Int → Int → Int → Int → Int → Option (Int)
  | 0, _, _, _, _, _, _ => none
  | k + 1, x0, x1, x2, x3, x9, x10 => if x10 < (x0.length : Int) then (if 0 ≤ x10 then (if (rd x0 x10) < x9 then (lintelref08_Tick.l0 k x0 x1 x2 x3 (rd x0 x10) (wrap64 (x10 + 1))) else (lintelref08_Tick.l0 k x0 x1 x2 x3 x9 (wrap64 (x10 + 1)))) else (none)) else (if 0 ≤ x2 then (if x2 < (x0.length : Int) then (if x3 > (wrap64 (x1 - (wrap64 ((rd x0 x2) - x9)))) then (if (wrap64 (x1 - (wrap64 ((rd x0 x2) - x9)))) > (wrap64 (1125899906842624 - (rd x0 x2))) then (some 0) else (some (wrap64 (x1 - (wrap64 ((rd x0 x2) - x9)))))) else (if x3 > (wrap64 (1125899906842624 - (rd x0 x2))) then (some 0) else (some x3))) else (none)) else (none))
end
def lintelref08_Tick.f (k : Nat) (l0 : List Int) (a1 : Int) (a2 : Int) (a3 : Int) : Option (Int) := if a2 < 0 then (lintelref08_Tick.j0 k l0 a1 a2 a3 true) else (if a2 ≥ (l0.length : Int) then (lintelref08_Tick.j0 k l0 a1 a2 a3 true) else (lintelref08_Tick.j0 k l0 a1 a2 a3 (decide (a3 < 1))))
theorem lintelref08_Tick.mono_l : ∀ k, (∀ y0 y1 y2 y3 y4, LeO (lintelref08_Tick.j0 k y0 y1 y2 y3 y4) (lintelref08_Tick.j0 (k + 1) y0 y1 y2 y3 y4)) ∧ (∀ y0 y1 y2 y3 y4 y5, LeO (lintelref08_Tick.l0 k y0 y1 y2 y3 y4 y5) (lintelref08_Tick.l0 (k + 1) y0 y1 y2 y3 y4 y5))
  | 0 => ⟨fun _ _ _ _ _ r h => by simp [lintelref08_Tick.j0] at h, fun _ _ _ _ _ _ r h => by simp [lintelref08_Tick.l0] at h⟩
  | k + 1 => by
    obtain ⟨ih0, ih1⟩ := lintelref08_Tick.mono_l k
    refine ⟨?_, ?_⟩
    · intro y0 y1 y2 y3 y4
      unfold lintelref08_Tick.j0
      repeat' first
      | (with_reducible exact ih0 _ _ _ _ _)
      | (with_reducible exact ih1 _ _ _ _ _ _)
      | (with_reducible exact LeO.refl _)
      | (with_reducible exact LeO.none _)
      | (with_reducible refine LeO.ite ?_ ?_)
      | (with_reducible refine LeO.bind ?_ (fun _ => ?_))
      | exact ih0 _ _ _ _ _
      | exact ih1 _ _ _ _ _ _
      | exact LeO.none _
      | refine LeO.ite ?_ ?_
      | refine LeO.bind ?_ (fun _ => ?_)
    · intro y0 y1 y2 y3 y4 y5
      unfold lintelref08_Tick.l0
      repeat' first
      | (with_reducible exact ih0 _ _ _ _ _)
      | (with_reducible exact ih1 _ _ _ _ _ _)
      | (with_reducible exact LeO.refl _)
      | (with_reducible exact LeO.none _)
      | (with_reducible refine LeO.ite ?_ ?_)
      | (with_reducible refine LeO.bind ?_ (fun _ => ?_))
      | exact ih0 _ _ _ _ _
      | exact ih1 _ _ _ _ _ _
      | exact LeO.none _
      | refine LeO.ite ?_ ?_
      | refine LeO.bind ?_ (fun _ => ?_)
theorem lintelref08_Tick.mono : ∀ a0 a1 a2 a3 k, LeO (lintelref08_Tick.f k a0 a1 a2 a3) (lintelref08_Tick.f (k + 1) a0 a1 a2 a3) := by
  intro a0 a1 a2 a3 k
  obtain ⟨ih0, ih1⟩ := lintelref08_Tick.mono_l k
  unfold lintelref08_Tick.f
  repeat' first
      | (with_reducible exact ih0 _ _ _ _ _)
      | (with_reducible exact ih1 _ _ _ _ _ _)
      | (with_reducible exact LeO.refl _)
      | (with_reducible exact LeO.none _)
      | (with_reducible refine LeO.ite ?_ ?_)
      | (with_reducible refine LeO.bind ?_ (fun _ => ?_))
      | exact ih0 _ _ _ _ _
      | exact ih1 _ _ _ _ _ _
      | exact LeO.none _
      | refine LeO.ite ?_ ?_
      | refine LeO.bind ?_ (fun _ => ?_)
set_option maxHeartbeats 8000000 in
set_option maxRecDepth 100000 in
theorem lintelref08_Tick.calls (k : Nat) (A0 : Option Addr) (c0 : Nat) (l0 : List Int) (a1 : Int) (a2 : Int) (a3 : Int) (r : Int) (w : World) (hr0 : Kd.C (Kd.int .i64) w A0 l0.length l0) (hc0 : l0.length ≤ c0) (h : lintelref08_Tick.f k l0 a1 a2 a3 = some r) :
    Calls Try.prog 9 #[.slice A0 l0.length c0, .int .i64 a1, .int .i64 a2, .int .i64 a3] w fun e w' => e = .returned (.int .i64 r) ∧ Drawn0 w w' := by
  have HR0 := Aside0.mk hr0
  have HC0 := Aside0.mk hc0
  clear hr0 hc0
  have H : (if a2 < 0 then (lintelref08_Tick.j0 k l0 a1 a2 a3 true) else (if a2 ≥ (l0.length : Int) then (lintelref08_Tick.j0 k l0 a1 a2 a3 true) else (lintelref08_Tick.j0 k l0 a1 a2 a3 (decide (a3 < 1))))) = some r := h
  clear h
  have HC5 := Aside0.mk H
  clear H
  go_enter Try.func9, Try.ntmps9
  go_upto_region 1 with (fail)
  go_cut [23] (fun v23 wc => ∃ (kq : Nat) (x23_4 : Bool), v23 = .bool x23_4 ∧ Aside0 (lintelref08_Tick.j0 kq l0 a1 a2 a3 x23_4 = some r) ∧ Aside0 (kq ≤ k) ∧ Drawn0 w wc)
  case first =>
    have H := HC5.out
    clear HC5
    by_cases c6 : a2 < 0
    · rw [if_pos c6] at H
      have c6b0 : decide (a2 < 0) = true := decide_eq_true c6
      clear c6
      (first | rw [c6b0] | (simp only [i64_w, i32_w]; rw [c6b0]) | skip)
      have H' := Aside0.mk H
      clear H
      go_wp2
      go_meet
      case rel => exact ⟨_, (true), (by first | rfl | (simp; done) | (simp [*]; done)), H', ⟨by first | omega | exact Nat.le_refl _⟩, by repeat (first | exact Drawn0.refl _ | apply Drawn0.step)⟩
    · rw [if_neg c6] at H
      have c6b0 : decide (a2 < 0) = false := decide_eq_false c6
      clear c6
      (first | rw [c6b0] | (simp only [i64_w, i32_w]; rw [c6b0]) | skip)
      by_cases c7 : a2 ≥ (l0.length : Int)
      · rw [if_pos c7] at H
        have c7b0 : decide ((l0.length : Int) ≤ a2) = true := decide_eq_true c7
        clear c7
        have H' := Aside0.mk H
        clear H
        go_wp2
        go_meet
        case rel => exact ⟨_, (true), (by first | rfl | (simp; done) | (simp [*]; done)), H', ⟨by first | omega | exact Nat.le_refl _⟩, by repeat (first | exact Drawn0.refl _ | apply Drawn0.step)⟩
      · rw [if_neg c7] at H
        have c7b0 : decide ((l0.length : Int) ≤ a2) = false := decide_eq_false c7
        clear c7
        have H' := Aside0.mk H
        clear H
        go_wp2
        go_meet
        case rel => exact ⟨_, (decide (a3 < 1)), (by first | rfl | (simp; done) | (simp [*]; done)), H', ⟨by first | omega | exact Nat.le_refl _⟩, by repeat (first | exact Drawn0.refl _ | apply Drawn0.step)⟩
  case rest =>
    clear HC5
    try clear p2
    try clear c6
    try clear c6b0
    try clear c7
    try clear c7b0
    obtain ⟨kq, x23_4, rfl, HA, HJ4, ⟨mc4, rfl⟩⟩ := hcut
    cases kq with
    | zero => exact absurd HA.out (by simp [lintelref08_Tick.j0])
    | succ kj4 =>
      have H := HA.out
      clear HA
      simp only [lintelref08_Tick.j0] at H
      by_cases c8 : x23_4 = true
      · subst c8
        have H1 : (some 0) = some r := by rw [if_pos rfl] at H; exact H
        clear H
        have H := H1
        clear H1
        obtain rfl := Option.some.inj H
        go_wp2
        go_ret
        exact ⟨by first | rfl | (simp; done) | (simp [*]; done), by repeat (first | exact Drawn0.refl _ | apply Drawn0.step)⟩
      · replace c8 := Bool.eq_false_iff.mpr c8
        subst c8
        have H1 : (if 0 ≤ a2 then (if a2 < (l0.length : Int) then (lintelref08_Tick.l0 kj4 l0 a1 a2 a3 (rd l0 a2) 0) else (none)) else (none)) = some r := by rw [if_neg (show ¬ (false = true) by decide)] at H; exact H
        clear H
        have H := H1
        clear H1
        by_cases c9 : 0 ≤ a2
        · rw [if_pos c9] at H
          have c9b0 : decide (0 ≤ a2) = true := decide_eq_true c9
          clear c9
          by_cases c10 : a2 < (l0.length : Int)
          · rw [if_pos c10] at H
            have c10b0 : decide (a2 < (l0.length : Int)) = true := decide_eq_true c10
            clear c10
            have H' := Aside0.mk H
            clear H
            have p101 : 0 ≤ (a2 : Int) := of_decide_eq_true (by first | (with_reducible assumption) | assumption)
            have q101 : a2 < (l0.length : Int) := of_decide_eq_true (by first | (with_reducible assumption) | assumption)
            obtain ⟨ad101, e101, hx101_0⟩ := Kd.at_int HR0.out a2 p101 q101
            cases e101
            replace p101 := eq_true p101
            replace q101 := eq_true q101
            go_wp2
            go_loopg [9, 10] kj4 (fun kq v9 v10 w' => ∃ (x9_2 : Int) (x10_2 : Int), v9 = .int .i64 x9_2 ∧ v10 = .int .i64 x10_2 ∧ Aside0 (lintelref08_Tick.l0 kq l0 a1 a2 a3 x9_2 x10_2 = some r) ∧ Aside0 (kq ≤ kj4) ∧ Drawn0 w w')
            case atStart => exact ⟨(rd l0 a2), (0), (by first | rfl | (simp; done) | (simp [*]; done)), (by first | rfl | (simp; done) | (simp [*]; done)), H', ⟨Nat.le_refl _⟩, by repeat (first | exact Drawn0.refl _ | apply Drawn0.step)⟩
            case round =>
              clear H'
              try clear c1
              try clear p1
              try clear q1
              try clear hx1
              try clear p2
              try clear c4
              try clear c6
              try clear c6b0
              try clear c7
              try clear c7b0
              try clear c8
              try clear c9
              try clear c9b0
              try clear c10
              try clear c10b0
              try clear p10
              try clear q10
              try clear hx10
              try clear hx101_0
              try clear p101
              try clear p2
              try clear q101
              obtain ⟨x9_2, x10_2, rfl, rfl, HA, HK2, ⟨m2, rfl⟩⟩ := hrel
              cases gk with
              | zero => exact absurd HA.out (by simp [lintelref08_Tick.l0])
              | succ k2 =>
                have H := HA.out
                clear HA
                simp only [lintelref08_Tick.l0] at H
                by_cases c11 : x10_2 < (l0.length : Int)
                · rw [if_pos c11] at H
                  have c11b0 : decide (x10_2 < (l0.length : Int)) = true := decide_eq_true c11
                  clear c11
                  by_cases c12 : 0 ≤ x10_2
                  · rw [if_pos c12] at H
                    have c12b0 : decide (0 ≤ x10_2) = true := decide_eq_true c12
                    clear c12
                    by_cases c13 : (rd l0 x10_2) < x9_2
                    · rw [if_pos c13] at H
                      have c13b0 : decide ((rd l0 x10_2) < x9_2) = true := decide_eq_true c13
                      clear c13
                      have H' := Aside0.mk H
                      clear H
                      have p102 : 0 ≤ (x10_2 : Int) := of_decide_eq_true (by first | (with_reducible assumption) | assumption)
                      have q102 : x10_2 < (l0.length : Int) := of_decide_eq_true (by first | (with_reducible assumption) | assumption)
                      obtain ⟨ad102, e102, hx102_0⟩ := Kd.at_int HR0.out x10_2 p102 q102
                      obtain rfl : ad101 = ad102 := (by injection e102)
                      replace p102 := eq_true p102
                      replace q102 := eq_true q102
                      have p103 : 0 ≤ (x10_2 : Int) := of_decide_eq_true (by first | (with_reducible assumption) | assumption)
                      have q103 : x10_2 < (l0.length : Int) := of_decide_eq_true (by first | (with_reducible assumption) | assumption)
                      obtain ⟨ad103, e103, hx103_0⟩ := Kd.at_int HR0.out x10_2 p103 q103
                      obtain rfl : ad101 = ad103 := (by injection e103)
                      replace p103 := eq_true p103
                      replace q103 := eq_true q103
                      go_wp2
                      go_roundg k2
                      case measure => have := HJ4.out; have := HK2.out; omega
                      case rel => exact ⟨(rd l0 x10_2), (wrap64 (x10_2 + 1)), (by first | rfl | (simp; done) | (simp [*]; done)), (by first | rfl | (simp; done) | (simp [*]; done)), H', ⟨by have := HJ4.out; have := HK2.out; omega⟩, by repeat (first | exact Drawn0.refl _ | apply Drawn0.step)⟩
                    · rw [if_neg c13] at H
                      have c13b0 : decide ((rd l0 x10_2) < x9_2) = false := decide_eq_false c13
                      clear c13
                      have H' := Aside0.mk H
                      clear H
                      have p102 : 0 ≤ (x10_2 : Int) := of_decide_eq_true (by first | (with_reducible assumption) | assumption)
                      have q102 : x10_2 < (l0.length : Int) := of_decide_eq_true (by first | (with_reducible assumption) | assumption)
                      obtain ⟨ad102, e102, hx102_0⟩ := Kd.at_int HR0.out x10_2 p102 q102
                      obtain rfl : ad101 = ad102 := (by injection e102)
                      replace p102 := eq_true p102
                      replace q102 := eq_true q102
                      go_wp2
                      go_roundg k2
                      case measure => have := HJ4.out; have := HK2.out; omega
                      case rel => exact ⟨(x9_2), (wrap64 (x10_2 + 1)), (by first | rfl | (simp; done) | (simp [*]; done)), (by first | rfl | (simp; done) | (simp [*]; done)), H', ⟨by have := HJ4.out; have := HK2.out; omega⟩, by repeat (first | exact Drawn0.refl _ | apply Drawn0.step)⟩
                  · rw [if_neg c12] at H
                    exact absurd H (by simp)
                · rw [if_neg c11] at H
                  have c11b0 : decide (x10_2 < (l0.length : Int)) = false := decide_eq_false c11
                  clear c11
                  by_cases c14 : 0 ≤ a2
                  · rw [if_pos c14] at H
                    have c14b0 : decide (0 ≤ a2) = true := decide_eq_true c14
                    clear c14
                    by_cases c15 : a2 < (l0.length : Int)
                    · rw [if_pos c15] at H
                      have c15b0 : decide (a2 < (l0.length : Int)) = true := decide_eq_true c15
                      clear c15
                      by_cases c16 : a3 > (wrap64 (a1 - (wrap64 ((rd l0 a2) - x9_2))))
                      · rw [if_pos c16] at H
                        have c16b0 : decide ((wrap64 (a1 - (wrap64 ((rd l0 a2) - x9_2)))) < a3) = true := decide_eq_true c16
                        clear c16
                        by_cases c17 : (wrap64 (a1 - (wrap64 ((rd l0 a2) - x9_2)))) > (wrap64 (1125899906842624 - (rd l0 a2)))
                        · rw [if_pos c17] at H
                          have c17b0 : decide ((wrap64 (1125899906842624 - (rd l0 a2))) < (wrap64 (a1 - (wrap64 ((rd l0 a2) - x9_2))))) = true := decide_eq_true c17
                          clear c17
                          obtain rfl := Option.some.inj H
                          have p104 : 0 ≤ (a2 : Int) := of_decide_eq_true (by first | (with_reducible assumption) | assumption)
                          have q104 : a2 < (l0.length : Int) := of_decide_eq_true (by first | (with_reducible assumption) | assumption)
                          obtain ⟨ad104, e104, hx104_0⟩ := Kd.at_int HR0.out a2 p104 q104
                          obtain rfl : ad101 = ad104 := (by injection e104)
                          replace p104 := eq_true p104
                          replace q104 := eq_true q104
                          have p105 : 0 ≤ (a2 : Int) := of_decide_eq_true (by first | (with_reducible assumption) | assumption)
                          have q105 : a2 < (l0.length : Int) := of_decide_eq_true (by first | (with_reducible assumption) | assumption)
                          obtain ⟨ad105, e105, hx105_0⟩ := Kd.at_int HR0.out a2 p105 q105
                          obtain rfl : ad101 = ad105 := (by injection e105)
                          replace p105 := eq_true p105
                          replace q105 := eq_true q105
                          go_wp2
                          go_ret
                          exact ⟨by first | rfl | (simp; done) | (simp [*]; done), by repeat (first | exact Drawn0.refl _ | apply Drawn0.step)⟩
                        · rw [if_neg c17] at H
                          have c17b0 : decide ((wrap64 (1125899906842624 - (rd l0 a2))) < (wrap64 (a1 - (wrap64 ((rd l0 a2) - x9_2))))) = false := decide_eq_false c17
                          clear c17
                          obtain rfl := Option.some.inj H
                          have p104 : 0 ≤ (a2 : Int) := of_decide_eq_true (by first | (with_reducible assumption) | assumption)
                          have q104 : a2 < (l0.length : Int) := of_decide_eq_true (by first | (with_reducible assumption) | assumption)
                          obtain ⟨ad104, e104, hx104_0⟩ := Kd.at_int HR0.out a2 p104 q104
                          obtain rfl : ad101 = ad104 := (by injection e104)
                          replace p104 := eq_true p104
                          replace q104 := eq_true q104
                          have p105 : 0 ≤ (a2 : Int) := of_decide_eq_true (by first | (with_reducible assumption) | assumption)
                          have q105 : a2 < (l0.length : Int) := of_decide_eq_true (by first | (with_reducible assumption) | assumption)
                          obtain ⟨ad105, e105, hx105_0⟩ := Kd.at_int HR0.out a2 p105 q105
                          obtain rfl : ad101 = ad105 := (by injection e105)
                          replace p105 := eq_true p105
                          replace q105 := eq_true q105
                          go_wp2
                          go_ret
                          exact ⟨by first | rfl | (simp; done) | (simp [*]; done), by repeat (first | exact Drawn0.refl _ | apply Drawn0.step)⟩
                      · rw [if_neg c16] at H
                        have c16b0 : decide ((wrap64 (a1 - (wrap64 ((rd l0 a2) - x9_2)))) < a3) = false := decide_eq_false c16
                        clear c16
                        by_cases c18 : a3 > (wrap64 (1125899906842624 - (rd l0 a2)))
                        · rw [if_pos c18] at H
                          have c18b0 : decide ((wrap64 (1125899906842624 - (rd l0 a2))) < a3) = true := decide_eq_true c18
                          clear c18
                          obtain rfl := Option.some.inj H
                          have p104 : 0 ≤ (a2 : Int) := of_decide_eq_true (by first | (with_reducible assumption) | assumption)
                          have q104 : a2 < (l0.length : Int) := of_decide_eq_true (by first | (with_reducible assumption) | assumption)
                          obtain ⟨ad104, e104, hx104_0⟩ := Kd.at_int HR0.out a2 p104 q104
                          obtain rfl : ad101 = ad104 := (by injection e104)
                          replace p104 := eq_true p104
                          replace q104 := eq_true q104
                          have p106 : 0 ≤ (a2 : Int) := of_decide_eq_true (by first | (with_reducible assumption) | assumption)
                          have q106 : a2 < (l0.length : Int) := of_decide_eq_true (by first | (with_reducible assumption) | assumption)
                          obtain ⟨ad106, e106, hx106_0⟩ := Kd.at_int HR0.out a2 p106 q106
                          obtain rfl : ad101 = ad106 := (by injection e106)
                          replace p106 := eq_true p106
                          replace q106 := eq_true q106
                          go_wp2
                          go_ret
                          exact ⟨by first | rfl | (simp; done) | (simp [*]; done), by repeat (first | exact Drawn0.refl _ | apply Drawn0.step)⟩
                        · rw [if_neg c18] at H
                          have c18b0 : decide ((wrap64 (1125899906842624 - (rd l0 a2))) < a3) = false := decide_eq_false c18
                          clear c18
                          obtain rfl := Option.some.inj H
                          have p104 : 0 ≤ (a2 : Int) := of_decide_eq_true (by first | (with_reducible assumption) | assumption)
                          have q104 : a2 < (l0.length : Int) := of_decide_eq_true (by first | (with_reducible assumption) | assumption)
                          obtain ⟨ad104, e104, hx104_0⟩ := Kd.at_int HR0.out a2 p104 q104
                          obtain rfl : ad101 = ad104 := (by injection e104)
                          replace p104 := eq_true p104
                          replace q104 := eq_true q104
                          have p106 : 0 ≤ (a2 : Int) := of_decide_eq_true (by first | (with_reducible assumption) | assumption)
                          have q106 : a2 < (l0.length : Int) := of_decide_eq_true (by first | (with_reducible assumption) | assumption)
                          obtain ⟨ad106, e106, hx106_0⟩ := Kd.at_int HR0.out a2 p106 q106
                          obtain rfl : ad101 = ad106 := (by injection e106)
                          replace p106 := eq_true p106
                          replace q106 := eq_true q106
                          go_wp2
                          go_ret
                          exact ⟨by first | rfl | (simp; done) | (simp [*]; done), by repeat (first | exact Drawn0.refl _ | apply Drawn0.step)⟩
                    · rw [if_neg c15] at H
                      exact absurd H (by simp)
                  · rw [if_neg c14] at H
                    exact absurd H (by simp)
          · rw [if_neg c10] at H
            exact absurd H (by simp)
        · rw [if_neg c9] at H
          exact absurd H (by simp)

-- NOT PRINTED: function 3 (lintellaw08_ClocksPlays)

end Go.Proofs.Ytkpigklcbigfdaa.PClocksPlays
