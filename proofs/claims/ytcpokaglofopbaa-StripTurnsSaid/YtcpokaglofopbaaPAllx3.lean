-- written by a turned copy of the printer (wip/turned-print.py), for this claim
import Derived.Test.YtcpokaglofopbaaPAllx0
import Derived.Test.YtcpokaglofopbaaPAllx2
namespace Go.Proofs.Ytcpokaglofopbaa.PAll
open Go.RowKit Go.Proofs.YtcpokaglofopbaaW.PrintWords Go.Proofs.YtcpokaglofopbaaW.PrintLast Go.Proofs.YtcpokaglofopbaaW.PrintMore
attribute [local go_sem] max2_int min2_int max_two min_two max_three min_three max_four min_four   -- for this text's walks alone
set_option linter.unusedVariables false
set_option linter.unusedSimpArgs false

/-! ### lintelref03_Scan: function 15 -/
mutual
def lintelref03_Scan.l0 : Nat → ByteArray → List ByteArray → Int → Option (List ByteArray × Int)
  | 0, _, _, _ => none
  | k + 1, x0, x4, x5 => if (wrap64 (x5 + 8)) ≤ (x0.size : Int) then (if 0 ≤ x5 then (if x5 < (x0.size : Int) then (if 0 ≤ (wrap64 (x5 + 1)) then (if (wrap64 (x5 + 1)) < (x0.size : Int) then (if 0 ≤ (wrap64 (x5 + 2)) then (if (wrap64 (x5 + 2)) < (x0.size : Int) then (if 0 ≤ (wrap64 (x5 + 3)) then (if (wrap64 (x5 + 3)) < (x0.size : Int) then (if (wrap64 ((wrap64 ((wrap64 ((wrap64 ((wrap64 ((wrap64 ((wrap64 (bt x0 x5)) * 256)) + (wrap64 (bt x0 (wrap64 (x5 + 1)))))) * 256)) + (wrap64 (bt x0 (wrap64 (x5 + 2)))))) * 256)) + (wrap64 (bt x0 (wrap64 (x5 + 3)))))) > 65536 then (lintelref03_Scan.j1 k x0 x4 x5 (wrap64 ((wrap64 ((wrap64 ((wrap64 ((wrap64 ((wrap64 ((wrap64 (bt x0 x5)) * 256)) + (wrap64 (bt x0 (wrap64 (x5 + 1)))))) * 256)) + (wrap64 (bt x0 (wrap64 (x5 + 2)))))) * 256)) + (wrap64 (bt x0 (wrap64 (x5 + 3)))))) true) else (lintelref03_Scan.j1 k x0 x4 x5 (wrap64 ((wrap64 ((wrap64 ((wrap64 ((wrap64 ((wrap64 ((wrap64 (bt x0 x5)) * 256)) + (wrap64 (bt x0 (wrap64 (x5 + 1)))))) * 256)) + (wrap64 (bt x0 (wrap64 (x5 + 2)))))) * 256)) + (wrap64 (bt x0 (wrap64 (x5 + 3)))))) (decide ((wrap64 ((wrap64 (x5 + 8)) + (wrap64 ((wrap64 ((wrap64 ((wrap64 ((wrap64 ((wrap64 ((wrap64 (bt x0 x5)) * 256)) + (wrap64 (bt x0 (wrap64 (x5 + 1)))))) * 256)) + (wrap64 (bt x0 (wrap64 (x5 + 2)))))) * 256)) + (wrap64 (bt x0 (wrap64 (x5 + 3)))))))) > (x0.size : Int))))) else (none)) else (none)) else (none)) else (none)) else (none)) else (none)) else (none)) else (none)) else (some (x4, x5))
def lintelref03_Scan.j1 : Nat → ByteArray → List ByteArray → Int → Int → Bool → Option (List ByteArray × Int)
  | 0, _, _, _, _, _ => none
  | k + 1, x0, x4, x5, x6, x50 => if x50 = true then (some (x4, x5)) else (if 0 ≤ (wrap64 (x5 + 8)) then (if (wrap64 (x5 + 8)) ≤ (wrap64 ((wrap64 (x5 + 8)) + x6)) then (if (wrap64 ((wrap64 (x5 + 8)) + x6)) ≤ (x0.size : Int) then ((lintelref03_Put.f k (x0.extract ((wrap64 (x5 + 8)) : Int).toNat ((wrap64 ((wrap64 (x5 + 8)) + x6)) : Int).toNat)).bind fun bt140 => (if bt140.2 = 0 then (if 0 ≤ x5 then (if x5 ≤ (wrap64 ((wrap64 (x5 + 8)) + x6)) then (if (x0.extract (x5 : Int).toNat ((wrap64 ((wrap64 (x5 + 8)) + x6)) : Int).toNat).toList = bt140.1.toList then (if x4.length < 8796093022208 then (lintelref03_Scan.l0 k x0 (x4 ++ [x0.extract ((wrap64 (x5 + 8)) : Int).toNat ((wrap64 ((wrap64 (x5 + 8)) + x6)) : Int).toNat]) (wrap64 (x5 + (wrap64 (8 + x6))))) else (none)) else (some (x4, x5))) else (none)) else (none)) else (some (x4, x5)))) else (none)) else (none)) else (none))
end
def lintelref03_Scan.f (k : Nat) (a0 : ByteArray) : Option (List ByteArray × Int) := lintelref03_Scan.l0 k a0 ([] : List ByteArray) 0
theorem lintelref03_Scan.mono_l : ∀ k, (∀ y0 y1 y2, LeO (lintelref03_Scan.l0 k y0 y1 y2) (lintelref03_Scan.l0 (k + 1) y0 y1 y2)) ∧ (∀ y0 y1 y2 y3 y4, LeO (lintelref03_Scan.j1 k y0 y1 y2 y3 y4) (lintelref03_Scan.j1 (k + 1) y0 y1 y2 y3 y4))
  | 0 => ⟨fun _ _ _ r h => by simp [lintelref03_Scan.l0] at h, fun _ _ _ _ _ r h => by simp [lintelref03_Scan.j1] at h⟩
  | k + 1 => by
    obtain ⟨ih0, ih1⟩ := lintelref03_Scan.mono_l k
    refine ⟨?_, ?_⟩
    · intro y0 y1 y2
      unfold lintelref03_Scan.l0
      repeat' first
      | (with_reducible exact ih0 _ _ _)
      | (with_reducible exact ih1 _ _ _ _ _)
      | (with_reducible exact lintelref03_Put.mono _ _)
      | (with_reducible exact LeO.refl _)
      | (with_reducible exact LeO.none _)
      | (with_reducible refine LeO.ite ?_ ?_)
      | (with_reducible refine LeO.bind ?_ (fun _ => ?_))
      | exact ih0 _ _ _
      | exact ih1 _ _ _ _ _
      | exact lintelref03_Put.mono _ _
      | exact LeO.none _
      | refine LeO.ite ?_ ?_
      | refine LeO.bind ?_ (fun _ => ?_)
    · intro y0 y1 y2 y3 y4
      unfold lintelref03_Scan.j1
      repeat' first
      | (with_reducible exact ih0 _ _ _)
      | (with_reducible exact ih1 _ _ _ _ _)
      | (with_reducible exact lintelref03_Put.mono _ _)
      | (with_reducible exact LeO.refl _)
      | (with_reducible exact LeO.none _)
      | (with_reducible refine LeO.ite ?_ ?_)
      | (with_reducible refine LeO.bind ?_ (fun _ => ?_))
      | exact ih0 _ _ _
      | exact ih1 _ _ _ _ _
      | exact lintelref03_Put.mono _ _
      | exact LeO.none _
      | refine LeO.ite ?_ ?_
      | refine LeO.bind ?_ (fun _ => ?_)
theorem lintelref03_Scan.mono : ∀ a0 k, LeO (lintelref03_Scan.f k a0) (lintelref03_Scan.f (k + 1) a0) := by
  intro a0 k
  obtain ⟨ih0, ih1⟩ := lintelref03_Scan.mono_l k
  unfold lintelref03_Scan.f
  repeat' first
      | (with_reducible exact ih0 _ _ _)
      | (with_reducible exact ih1 _ _ _ _ _)
      | (with_reducible exact lintelref03_Put.mono _ _)
      | (with_reducible exact LeO.refl _)
      | (with_reducible exact LeO.none _)
      | (with_reducible refine LeO.ite ?_ ?_)
      | (with_reducible refine LeO.bind ?_ (fun _ => ?_))
      | exact ih0 _ _ _
      | exact ih1 _ _ _ _ _
      | exact lintelref03_Put.mono _ _
      | exact LeO.none _
      | refine LeO.ite ?_ ?_
      | refine LeO.bind ?_ (fun _ => ?_)
set_option maxHeartbeats 8000000 in
set_option maxRecDepth 100000 in
theorem lintelref03_Scan.calls (k : Nat) (a0 : ByteArray) (r1 : List ByteArray) (r2 : Int) (w : World) (h : lintelref03_Scan.f k a0 = some (r1, r2)) :
    Calls Try.prog 15 #[.string a0] w fun e w' => ∃ v0_ : Value, e = .returned (.tuple #[v0_, .int .i64 r2]) ∧ Kd.R Kd.string 9 w' w.heap.size (fun _ => True) v0_ r1 ∧ Below w.heap.size w w' := by
  have HB := Aside0.mk (Below.refl w.heap.size w)
  have H : (lintelref03_Scan.l0 k a0 ([] : List ByteArray) 0) = some (r1, r2) := h
  clear h
  have H' := Aside0.mk H
  clear H
  go_enter Try.func15, Try.ntmps15
  go_wp2
  repeat (go_quiet (fail); try go_wp2)
  go_loopg [4, 5] k (fun kq v4 v5 w' => ∃ (x4_1 : List ByteArray) (x5_1 : Int), v5 = .int .i64 x5_1 ∧ Aside0 (lintelref03_Scan.l0 kq a0 x4_1 x5_1 = some (r1, r2)) ∧ Aside0 (kq ≤ k) ∧ Aside0 (Kd.R Kd.string 9 w' w.heap.size (fun _ => True) v4 x4_1) ∧ Aside0 (Below w.heap.size w w'))
  case atStart => exact ⟨(([] : List ByteArray)), (0), (by first | rfl | (simp; done) | (simp [*]; done)), H', ⟨Nat.le_refl _⟩, ⟨by first | exact Kd.R_nil _ _ _ _ _ | exact Kd.N_nil _ _ _ _ _ | exact Kd.V_nil _ _ _ _ _ | exact Kd.Q_nil _ _ _ _ _ | exact Kd.S_nil _ _ _ _ _⟩, ⟨by repeat (first | (with_reducible first | exact HB.out | apply below_alloc | apply pw_below_drewN | apply below_drew1) | exact HB.out)⟩⟩
  case round =>
    clear H'
    try clear c1
    obtain ⟨x4_1, x5_1, rfl, HA, HK1, HO_4, HB⟩ := hrel
    cases gk with
    | zero => exact absurd HA.out (by simp [lintelref03_Scan.l0])
    | succ k1 =>
      have H := HA.out
      clear HA
      simp only [lintelref03_Scan.l0] at H
      by_cases c2 : (wrap64 (x5_1 + 8)) ≤ (a0.size : Int)
      · rw [if_pos c2] at H
        have c2b0 : decide ((wrap64 (x5_1 + 8)) ≤ (a0.size : Int)) = true := decide_eq_true c2
        clear c2
        by_cases c3 : 0 ≤ x5_1
        · rw [if_pos c3] at H
          have c3b0 : decide (0 ≤ x5_1) = true := decide_eq_true c3
          clear c3
          by_cases c4 : x5_1 < (a0.size : Int)
          · rw [if_pos c4] at H
            have c4b0 : decide (x5_1 < (a0.size : Int)) = true := decide_eq_true c4
            clear c4
            obtain ⟨ji6, hji6⟩ : ∃ j_ : Int, (wrap64 (x5_1 + 1)) = j_ := ⟨_, rfl⟩
            replace H : (if 0 ≤ (ji6) then (if (ji6) < (a0.size : Int) then (if 0 ≤ (wrap64 (x5_1 + 2)) then (if (wrap64 (x5_1 + 2)) < (a0.size : Int) then (if 0 ≤ (wrap64 (x5_1 + 3)) then (if (wrap64 (x5_1 + 3)) < (a0.size : Int) then (if (wrap64 ((wrap64 ((wrap64 ((wrap64 ((wrap64 ((wrap64 ((wrap64 (bt a0 x5_1)) * 256)) + (wrap64 (bt a0 (ji6))))) * 256)) + (wrap64 (bt a0 (wrap64 (x5_1 + 2)))))) * 256)) + (wrap64 (bt a0 (wrap64 (x5_1 + 3)))))) > 65536 then (lintelref03_Scan.j1 k1 a0 x4_1 x5_1 (wrap64 ((wrap64 ((wrap64 ((wrap64 ((wrap64 ((wrap64 ((wrap64 (bt a0 x5_1)) * 256)) + (wrap64 (bt a0 (ji6))))) * 256)) + (wrap64 (bt a0 (wrap64 (x5_1 + 2)))))) * 256)) + (wrap64 (bt a0 (wrap64 (x5_1 + 3)))))) true) else (lintelref03_Scan.j1 k1 a0 x4_1 x5_1 (wrap64 ((wrap64 ((wrap64 ((wrap64 ((wrap64 ((wrap64 ((wrap64 (bt a0 x5_1)) * 256)) + (wrap64 (bt a0 (ji6))))) * 256)) + (wrap64 (bt a0 (wrap64 (x5_1 + 2)))))) * 256)) + (wrap64 (bt a0 (wrap64 (x5_1 + 3)))))) (decide ((wrap64 ((wrap64 (x5_1 + 8)) + (wrap64 ((wrap64 ((wrap64 ((wrap64 ((wrap64 ((wrap64 ((wrap64 (bt a0 x5_1)) * 256)) + (wrap64 (bt a0 (ji6))))) * 256)) + (wrap64 (bt a0 (wrap64 (x5_1 + 2)))))) * 256)) + (wrap64 (bt a0 (wrap64 (x5_1 + 3)))))))) > (a0.size : Int))))) else (none)) else (none)) else (none)) else (none)) else (none)) else (none)) = some (r1, r2) := by first | (rw [hji6] at H; exact H) | (simp only [hji6] at H ⊢; exact H)
            have hji6w : (IntKind.i64.wrap (x5_1 + 1)) = ji6 := (i64_w _).trans hji6
            by_cases c7 : 0 ≤ (ji6)
            · rw [if_pos c7] at H
              have c7b0 : decide (0 ≤ (ji6)) = true := decide_eq_true c7
              clear c7
              by_cases c8 : (ji6) < (a0.size : Int)
              · rw [if_pos c8] at H
                have c8b0 : decide ((ji6) < (a0.size : Int)) = true := decide_eq_true c8
                clear c8
                obtain ⟨ji10, hji10⟩ : ∃ j_ : Int, (wrap64 (x5_1 + 2)) = j_ := ⟨_, rfl⟩
                replace H : (if 0 ≤ (ji10) then (if (ji10) < (a0.size : Int) then (if 0 ≤ (wrap64 (x5_1 + 3)) then (if (wrap64 (x5_1 + 3)) < (a0.size : Int) then (if (wrap64 ((wrap64 ((wrap64 ((wrap64 ((wrap64 ((wrap64 ((wrap64 (bt a0 x5_1)) * 256)) + (wrap64 (bt a0 (ji6))))) * 256)) + (wrap64 (bt a0 (ji10))))) * 256)) + (wrap64 (bt a0 (wrap64 (x5_1 + 3)))))) > 65536 then (lintelref03_Scan.j1 k1 a0 x4_1 x5_1 (wrap64 ((wrap64 ((wrap64 ((wrap64 ((wrap64 ((wrap64 ((wrap64 (bt a0 x5_1)) * 256)) + (wrap64 (bt a0 (ji6))))) * 256)) + (wrap64 (bt a0 (ji10))))) * 256)) + (wrap64 (bt a0 (wrap64 (x5_1 + 3)))))) true) else (lintelref03_Scan.j1 k1 a0 x4_1 x5_1 (wrap64 ((wrap64 ((wrap64 ((wrap64 ((wrap64 ((wrap64 ((wrap64 (bt a0 x5_1)) * 256)) + (wrap64 (bt a0 (ji6))))) * 256)) + (wrap64 (bt a0 (ji10))))) * 256)) + (wrap64 (bt a0 (wrap64 (x5_1 + 3)))))) (decide ((wrap64 ((wrap64 (x5_1 + 8)) + (wrap64 ((wrap64 ((wrap64 ((wrap64 ((wrap64 ((wrap64 ((wrap64 (bt a0 x5_1)) * 256)) + (wrap64 (bt a0 (ji6))))) * 256)) + (wrap64 (bt a0 (ji10))))) * 256)) + (wrap64 (bt a0 (wrap64 (x5_1 + 3)))))))) > (a0.size : Int))))) else (none)) else (none)) else (none)) else (none)) = some (r1, r2) := by first | (rw [hji10] at H; exact H) | (simp only [hji10] at H ⊢; exact H)
                have hji10w : (IntKind.i64.wrap (x5_1 + 2)) = ji10 := (i64_w _).trans hji10
                by_cases c11 : 0 ≤ (ji10)
                · rw [if_pos c11] at H
                  have c11b0 : decide (0 ≤ (ji10)) = true := decide_eq_true c11
                  clear c11
                  by_cases c12 : (ji10) < (a0.size : Int)
                  · rw [if_pos c12] at H
                    have c12b0 : decide ((ji10) < (a0.size : Int)) = true := decide_eq_true c12
                    clear c12
                    obtain ⟨ji14, hji14⟩ : ∃ j_ : Int, (wrap64 (x5_1 + 3)) = j_ := ⟨_, rfl⟩
                    replace H : (if 0 ≤ (ji14) then (if (ji14) < (a0.size : Int) then (if (wrap64 ((wrap64 ((wrap64 ((wrap64 ((wrap64 ((wrap64 ((wrap64 (bt a0 x5_1)) * 256)) + (wrap64 (bt a0 (ji6))))) * 256)) + (wrap64 (bt a0 (ji10))))) * 256)) + (wrap64 (bt a0 (ji14))))) > 65536 then (lintelref03_Scan.j1 k1 a0 x4_1 x5_1 (wrap64 ((wrap64 ((wrap64 ((wrap64 ((wrap64 ((wrap64 ((wrap64 (bt a0 x5_1)) * 256)) + (wrap64 (bt a0 (ji6))))) * 256)) + (wrap64 (bt a0 (ji10))))) * 256)) + (wrap64 (bt a0 (ji14))))) true) else (lintelref03_Scan.j1 k1 a0 x4_1 x5_1 (wrap64 ((wrap64 ((wrap64 ((wrap64 ((wrap64 ((wrap64 ((wrap64 (bt a0 x5_1)) * 256)) + (wrap64 (bt a0 (ji6))))) * 256)) + (wrap64 (bt a0 (ji10))))) * 256)) + (wrap64 (bt a0 (ji14))))) (decide ((wrap64 ((wrap64 (x5_1 + 8)) + (wrap64 ((wrap64 ((wrap64 ((wrap64 ((wrap64 ((wrap64 ((wrap64 (bt a0 x5_1)) * 256)) + (wrap64 (bt a0 (ji6))))) * 256)) + (wrap64 (bt a0 (ji10))))) * 256)) + (wrap64 (bt a0 (ji14))))))) > (a0.size : Int))))) else (none)) else (none)) = some (r1, r2) := by first | (rw [hji14] at H; exact H) | (simp only [hji14] at H ⊢; exact H)
                    have hji14w : (IntKind.i64.wrap (x5_1 + 3)) = ji14 := (i64_w _).trans hji14
                    by_cases c15 : 0 ≤ (ji14)
                    · rw [if_pos c15] at H
                      have c15b0 : decide (0 ≤ (ji14)) = true := decide_eq_true c15
                      clear c15
                      by_cases c16 : (ji14) < (a0.size : Int)
                      · rw [if_pos c16] at H
                        have c16b0 : decide ((ji14) < (a0.size : Int)) = true := decide_eq_true c16
                        clear c16
                        have HC18 := Aside0.mk H
                        clear H
                        have p5 : 0 ≤ (x5_1 : Int) := of_decide_eq_true (by first | (with_reducible assumption) | assumption)
                        have q5 : x5_1 < (a0.size : Int) := of_decide_eq_true (by first | (with_reducible assumption) | assumption)
                        have hx5 := bt_at a0 x5_1
                        replace p5 := eq_true p5
                        replace q5 := eq_true q5
                        have p9 : 0 ≤ ((ji6) : Int) := of_decide_eq_true (by first | (with_reducible assumption) | assumption)
                        have q9 : (ji6) < (a0.size : Int) := of_decide_eq_true (by first | (with_reducible assumption) | assumption)
                        have hx9 := bt_at a0 (ji6)
                        replace p9 := eq_true p9
                        replace q9 := eq_true q9
                        have p13 : 0 ≤ ((ji10) : Int) := of_decide_eq_true (by first | (with_reducible assumption) | assumption)
                        have q13 : (ji10) < (a0.size : Int) := of_decide_eq_true (by first | (with_reducible assumption) | assumption)
                        have hx13 := bt_at a0 (ji10)
                        replace p13 := eq_true p13
                        replace q13 := eq_true q13
                        have p17 : 0 ≤ ((ji14) : Int) := of_decide_eq_true (by first | (with_reducible assumption) | assumption)
                        have q17 : (ji14) < (a0.size : Int) := of_decide_eq_true (by first | (with_reducible assumption) | assumption)
                        have hx17 := bt_at a0 (ji14)
                        replace p17 := eq_true p17
                        replace q17 := eq_true q17
                        go_upto_region 5 with (fail)
                        repeat (go_quiet (fail); go_upto_region 5 with (fail))
                        go_cut [50] (fun v50 wc => ∃ (kq : Nat) (x50_17 : Bool), v50 = .bool x50_17 ∧ Aside0 (lintelref03_Scan.j1 kq a0 x4_1 x5_1 (wrap64 ((wrap64 ((wrap64 ((wrap64 ((wrap64 ((wrap64 ((wrap64 (bt a0 x5_1)) * 256)) + (wrap64 (bt a0 (ji6))))) * 256)) + (wrap64 (bt a0 (ji10))))) * 256)) + (wrap64 (bt a0 (ji14))))) x50_17 = some (r1, r2)) ∧ Aside0 (kq ≤ k1) ∧ Aside0 (Kd.R Kd.string 9 wc w.heap.size (fun _ => True) u4 x4_1) ∧ Aside0 (Below w.heap.size w wc))
                        case first =>
                          have H := HC18.out
                          clear HC18
                          by_cases c19 : (wrap64 ((wrap64 ((wrap64 ((wrap64 ((wrap64 ((wrap64 ((wrap64 (bt a0 x5_1)) * 256)) + (wrap64 (bt a0 (ji6))))) * 256)) + (wrap64 (bt a0 (ji10))))) * 256)) + (wrap64 (bt a0 (ji14))))) > 65536
                          · rw [if_pos c19] at H
                            have c19b0 : decide (65536 < (wrap64 ((wrap64 ((wrap64 ((wrap64 ((wrap64 ((wrap64 ((wrap64 (bt a0 x5_1)) * 256)) + (wrap64 (bt a0 (ji6))))) * 256)) + (wrap64 (bt a0 (ji10))))) * 256)) + (wrap64 (bt a0 (ji14)))))) = true := decide_eq_true c19
                            clear c19
                            (first | rw [c19b0] | (simp only [i64_w, i32_w]; rw [c19b0]) | skip)
                            have H' := Aside0.mk H
                            clear H
                            go_wp2
                            repeat (go_quiet (fail); try go_wp2)
                            go_meet
                            case rel => exact ⟨_, (true), (by first | rfl | (simp; done) | (simp [*]; done)), H', ⟨by have := HK1.out; first | omega | exact Nat.le_refl _⟩, ⟨by (with_reducible repeat (first | apply Kd.R_alloc | apply Kd.R_drewN | apply Kd.R_drew)); exact HO_4.out⟩, ⟨by repeat (first | (with_reducible first | exact HB.out | apply below_alloc | apply pw_below_drewN | apply below_drew1) | exact HB.out)⟩⟩
                          · rw [if_neg c19] at H
                            have c19b0 : decide (65536 < (wrap64 ((wrap64 ((wrap64 ((wrap64 ((wrap64 ((wrap64 ((wrap64 (bt a0 x5_1)) * 256)) + (wrap64 (bt a0 (ji6))))) * 256)) + (wrap64 (bt a0 (ji10))))) * 256)) + (wrap64 (bt a0 (ji14)))))) = false := decide_eq_false c19
                            clear c19
                            (first | rw [c19b0] | (simp only [i64_w, i32_w]; rw [c19b0]) | skip)
                            have H' := Aside0.mk H
                            clear H
                            go_wp2
                            repeat (go_quiet (fail); try go_wp2)
                            go_meet
                            case rel => exact ⟨_, (decide ((wrap64 ((wrap64 (x5_1 + 8)) + (wrap64 ((wrap64 ((wrap64 ((wrap64 ((wrap64 ((wrap64 ((wrap64 (bt a0 x5_1)) * 256)) + (wrap64 (bt a0 (ji6))))) * 256)) + (wrap64 (bt a0 (ji10))))) * 256)) + (wrap64 (bt a0 (ji14))))))) > (a0.size : Int))), (by first | rfl | (simp; done) | (simp only [← hji6, ← hji10, ← hji14] <;> (first | rfl | simp)) | (simp [*]; done)), H', ⟨by have := HK1.out; first | omega | exact Nat.le_refl _⟩, ⟨by (with_reducible repeat (first | apply Kd.R_alloc | apply Kd.R_drewN | apply Kd.R_drew)); exact HO_4.out⟩, ⟨by repeat (first | (with_reducible first | exact HB.out | apply below_alloc | apply pw_below_drewN | apply below_drew1) | exact HB.out)⟩⟩
                        case rest =>
                          clear HC18
                          try clear c1
                          try clear p1
                          try clear q1
                          try clear hx1
                          try clear c2
                          try clear c2b0
                          try clear p2
                          try clear c3
                          try clear c3b0
                          try clear c4
                          try clear c4b0
                          try clear p5
                          try clear q5
                          try clear hx5
                          try clear p6
                          try clear c7
                          try clear c7b0
                          try clear c8
                          try clear c8b0
                          try clear p9
                          try clear q9
                          try clear hx9
                          try clear c11
                          try clear c11b0
                          try clear c12
                          try clear c12b0
                          try clear p13
                          try clear q13
                          try clear hx13
                          try clear c15
                          try clear c15b0
                          try clear c16
                          try clear c16b0
                          try clear p17
                          try clear q17
                          try clear hx17
                          try clear c19
                          try clear c19b0
                          try clear p13
                          try clear p17
                          try clear p5
                          try clear p9
                          try clear q13
                          try clear q17
                          try clear q5
                          try clear q9
                          obtain ⟨kq, x50_17, rfl, HA, HJ17, HO_4, HB⟩ := hcut
                          cases kq with
                          | zero => exact absurd HA.out (by simp [lintelref03_Scan.j1])
                          | succ kj17 =>
                            have H := HA.out
                            clear HA
                            simp only [lintelref03_Scan.j1] at H
                            by_cases c20 : x50_17 = true
                            · subst c20
                              have H1 : (some (x4_1, x5_1)) = some (r1, r2) := by rw [if_pos rfl] at H; exact H
                              clear H
                              have H := H1
                              clear H1
                              simp only [Option.some.injEq, Prod.mk.injEq] at H
                              obtain ⟨rfl, rfl⟩ := H
                              go_wp2
                              repeat (go_quiet (fail); try go_wp2)
                              go_ret2
                              exact ⟨_, by first | rfl | (simp [errW_none, errW_some] <;> rfl) | (simp only [← hji6, ← hji10, ← hji14]; first | rfl | (simp [errW_none, errW_some] <;> rfl)) | (simp [*, errW_none, errW_some] <;> rfl), by (with_reducible repeat (first | apply Kd.R_alloc | apply Kd.R_drewN | apply Kd.R_drew)); exact HO_4.out, by repeat (first | (with_reducible first | exact HB.out | apply below_alloc | apply pw_below_drewN | apply below_drew1) | exact HB.out)⟩
                            · replace c20 := Bool.eq_false_iff.mpr c20
                              subst c20
                              have H1 : (if 0 ≤ (wrap64 (x5_1 + 8)) then (if (wrap64 (x5_1 + 8)) ≤ (wrap64 ((wrap64 (x5_1 + 8)) + (wrap64 ((wrap64 ((wrap64 ((wrap64 ((wrap64 ((wrap64 ((wrap64 (bt a0 x5_1)) * 256)) + (wrap64 (bt a0 (ji6))))) * 256)) + (wrap64 (bt a0 (ji10))))) * 256)) + (wrap64 (bt a0 (ji14))))))) then (if (wrap64 ((wrap64 (x5_1 + 8)) + (wrap64 ((wrap64 ((wrap64 ((wrap64 ((wrap64 ((wrap64 ((wrap64 (bt a0 x5_1)) * 256)) + (wrap64 (bt a0 (ji6))))) * 256)) + (wrap64 (bt a0 (ji10))))) * 256)) + (wrap64 (bt a0 (ji14))))))) ≤ (a0.size : Int) then ((lintelref03_Put.f kj17 (a0.extract ((wrap64 (x5_1 + 8)) : Int).toNat ((wrap64 ((wrap64 (x5_1 + 8)) + (wrap64 ((wrap64 ((wrap64 ((wrap64 ((wrap64 ((wrap64 ((wrap64 (bt a0 x5_1)) * 256)) + (wrap64 (bt a0 (ji6))))) * 256)) + (wrap64 (bt a0 (ji10))))) * 256)) + (wrap64 (bt a0 (ji14))))))) : Int).toNat)).bind fun bt140 => (if bt140.2 = 0 then (if 0 ≤ x5_1 then (if x5_1 ≤ (wrap64 ((wrap64 (x5_1 + 8)) + (wrap64 ((wrap64 ((wrap64 ((wrap64 ((wrap64 ((wrap64 ((wrap64 (bt a0 x5_1)) * 256)) + (wrap64 (bt a0 (ji6))))) * 256)) + (wrap64 (bt a0 (ji10))))) * 256)) + (wrap64 (bt a0 (ji14))))))) then (if (a0.extract (x5_1 : Int).toNat ((wrap64 ((wrap64 (x5_1 + 8)) + (wrap64 ((wrap64 ((wrap64 ((wrap64 ((wrap64 ((wrap64 ((wrap64 (bt a0 x5_1)) * 256)) + (wrap64 (bt a0 (ji6))))) * 256)) + (wrap64 (bt a0 (ji10))))) * 256)) + (wrap64 (bt a0 (ji14))))))) : Int).toNat).toList = bt140.1.toList then (if x4_1.length < 8796093022208 then (lintelref03_Scan.l0 kj17 a0 (x4_1 ++ [a0.extract ((wrap64 (x5_1 + 8)) : Int).toNat ((wrap64 ((wrap64 (x5_1 + 8)) + (wrap64 ((wrap64 ((wrap64 ((wrap64 ((wrap64 ((wrap64 ((wrap64 (bt a0 x5_1)) * 256)) + (wrap64 (bt a0 (ji6))))) * 256)) + (wrap64 (bt a0 (ji10))))) * 256)) + (wrap64 (bt a0 (ji14))))))) : Int).toNat]) (wrap64 (x5_1 + (wrap64 (8 + (wrap64 ((wrap64 ((wrap64 ((wrap64 ((wrap64 ((wrap64 ((wrap64 (bt a0 x5_1)) * 256)) + (wrap64 (bt a0 (ji6))))) * 256)) + (wrap64 (bt a0 (ji10))))) * 256)) + (wrap64 (bt a0 (ji14)))))))))) else (none)) else (some (x4_1, x5_1))) else (none)) else (none)) else (some (x4_1, x5_1)))) else (none)) else (none)) else (none)) = some (r1, r2) := by rw [if_neg (show ¬ (false = true) by decide)] at H; exact H
                              clear H
                              have H := H1
                              clear H1
                              obtain ⟨ji21, hji21⟩ : ∃ j_ : Int, (wrap64 (x5_1 + 8)) = j_ := ⟨_, rfl⟩
                              replace H : (if 0 ≤ (ji21) then (if (ji21) ≤ (wrap64 ((ji21) + (wrap64 ((wrap64 ((wrap64 ((wrap64 ((wrap64 ((wrap64 ((wrap64 (bt a0 x5_1)) * 256)) + (wrap64 (bt a0 (ji6))))) * 256)) + (wrap64 (bt a0 (ji10))))) * 256)) + (wrap64 (bt a0 (ji14))))))) then (if (wrap64 ((ji21) + (wrap64 ((wrap64 ((wrap64 ((wrap64 ((wrap64 ((wrap64 ((wrap64 (bt a0 x5_1)) * 256)) + (wrap64 (bt a0 (ji6))))) * 256)) + (wrap64 (bt a0 (ji10))))) * 256)) + (wrap64 (bt a0 (ji14))))))) ≤ (a0.size : Int) then ((lintelref03_Put.f kj17 (a0.extract ((ji21) : Int).toNat ((wrap64 ((ji21) + (wrap64 ((wrap64 ((wrap64 ((wrap64 ((wrap64 ((wrap64 ((wrap64 (bt a0 x5_1)) * 256)) + (wrap64 (bt a0 (ji6))))) * 256)) + (wrap64 (bt a0 (ji10))))) * 256)) + (wrap64 (bt a0 (ji14))))))) : Int).toNat)).bind fun bt140 => (if bt140.2 = 0 then (if 0 ≤ x5_1 then (if x5_1 ≤ (wrap64 ((ji21) + (wrap64 ((wrap64 ((wrap64 ((wrap64 ((wrap64 ((wrap64 ((wrap64 (bt a0 x5_1)) * 256)) + (wrap64 (bt a0 (ji6))))) * 256)) + (wrap64 (bt a0 (ji10))))) * 256)) + (wrap64 (bt a0 (ji14))))))) then (if (a0.extract (x5_1 : Int).toNat ((wrap64 ((ji21) + (wrap64 ((wrap64 ((wrap64 ((wrap64 ((wrap64 ((wrap64 ((wrap64 (bt a0 x5_1)) * 256)) + (wrap64 (bt a0 (ji6))))) * 256)) + (wrap64 (bt a0 (ji10))))) * 256)) + (wrap64 (bt a0 (ji14))))))) : Int).toNat).toList = bt140.1.toList then (if x4_1.length < 8796093022208 then (lintelref03_Scan.l0 kj17 a0 (x4_1 ++ [a0.extract ((ji21) : Int).toNat ((wrap64 ((ji21) + (wrap64 ((wrap64 ((wrap64 ((wrap64 ((wrap64 ((wrap64 ((wrap64 (bt a0 x5_1)) * 256)) + (wrap64 (bt a0 (ji6))))) * 256)) + (wrap64 (bt a0 (ji10))))) * 256)) + (wrap64 (bt a0 (ji14))))))) : Int).toNat]) (wrap64 (x5_1 + (wrap64 (8 + (wrap64 ((wrap64 ((wrap64 ((wrap64 ((wrap64 ((wrap64 ((wrap64 (bt a0 x5_1)) * 256)) + (wrap64 (bt a0 (ji6))))) * 256)) + (wrap64 (bt a0 (ji10))))) * 256)) + (wrap64 (bt a0 (ji14)))))))))) else (none)) else (some (x4_1, x5_1))) else (none)) else (none)) else (some (x4_1, x5_1)))) else (none)) else (none)) else (none)) = some (r1, r2) := by first | (rw [hji21] at H; exact H) | (simp only [hji21] at H ⊢; exact H)
                              (try rw [hji21] at c2b0)
                              have hji21w : (IntKind.i64.wrap (x5_1 + 8)) = ji21 := (i64_w _).trans hji21
                              by_cases c22 : 0 ≤ (ji21)
                              · rw [if_pos c22] at H
                                have c22b0 := eq_true c22
                                have c22b1 : decide (0 ≤ (ji21)) = true := decide_eq_true c22
                                clear c22
                                by_cases c23 : (ji21) ≤ (wrap64 ((ji21) + (wrap64 ((wrap64 ((wrap64 ((wrap64 ((wrap64 ((wrap64 ((wrap64 (bt a0 x5_1)) * 256)) + (wrap64 (bt a0 (ji6))))) * 256)) + (wrap64 (bt a0 (ji10))))) * 256)) + (wrap64 (bt a0 (ji14)))))))
                                · rw [if_pos c23] at H
                                  have c23b0 := eq_true c23
                                  have c23b1 : decide ((ji21) ≤ (wrap64 ((ji21) + (wrap64 ((wrap64 ((wrap64 ((wrap64 ((wrap64 ((wrap64 ((wrap64 (bt a0 x5_1)) * 256)) + (wrap64 (bt a0 (ji6))))) * 256)) + (wrap64 (bt a0 (ji10))))) * 256)) + (wrap64 (bt a0 (ji14)))))))) = true := decide_eq_true c23
                                  by_cases c24 : (wrap64 ((ji21) + (wrap64 ((wrap64 ((wrap64 ((wrap64 ((wrap64 ((wrap64 ((wrap64 (bt a0 x5_1)) * 256)) + (wrap64 (bt a0 (ji6))))) * 256)) + (wrap64 (bt a0 (ji10))))) * 256)) + (wrap64 (bt a0 (ji14))))))) ≤ (a0.size : Int)
                                  · rw [if_pos c24] at H
                                    have c24b0 := eq_true c24
                                    have c24b1 : decide ((wrap64 ((ji21) + (wrap64 ((wrap64 ((wrap64 ((wrap64 ((wrap64 ((wrap64 ((wrap64 (bt a0 x5_1)) * 256)) + (wrap64 (bt a0 (ji6))))) * 256)) + (wrap64 (bt a0 (ji10))))) * 256)) + (wrap64 (bt a0 (ji14))))))) ≤ (a0.size : Int)) = true := decide_eq_true c24
                                    replace H := Option.bind_eq_some_iff.mp H
                                    obtain ⟨⟨t140, t141⟩, A250, H⟩ := H
                                    replace H : (if t141 = 0 then (if 0 ≤ x5_1 then (if x5_1 ≤ (wrap64 ((ji21) + (wrap64 ((wrap64 ((wrap64 ((wrap64 ((wrap64 ((wrap64 ((wrap64 (bt a0 x5_1)) * 256)) + (wrap64 (bt a0 (ji6))))) * 256)) + (wrap64 (bt a0 (ji10))))) * 256)) + (wrap64 (bt a0 (ji14))))))) then (if (a0.extract (x5_1 : Int).toNat ((wrap64 ((ji21) + (wrap64 ((wrap64 ((wrap64 ((wrap64 ((wrap64 ((wrap64 ((wrap64 (bt a0 x5_1)) * 256)) + (wrap64 (bt a0 (ji6))))) * 256)) + (wrap64 (bt a0 (ji10))))) * 256)) + (wrap64 (bt a0 (ji14))))))) : Int).toNat).toList = t140.toList then (if x4_1.length < 8796093022208 then (lintelref03_Scan.l0 kj17 a0 (x4_1 ++ [a0.extract ((ji21) : Int).toNat ((wrap64 ((ji21) + (wrap64 ((wrap64 ((wrap64 ((wrap64 ((wrap64 ((wrap64 ((wrap64 (bt a0 x5_1)) * 256)) + (wrap64 (bt a0 (ji6))))) * 256)) + (wrap64 (bt a0 (ji10))))) * 256)) + (wrap64 (bt a0 (ji14))))))) : Int).toNat]) (wrap64 (x5_1 + (wrap64 (8 + (wrap64 ((wrap64 ((wrap64 ((wrap64 ((wrap64 ((wrap64 ((wrap64 (bt a0 x5_1)) * 256)) + (wrap64 (bt a0 (ji6))))) * 256)) + (wrap64 (bt a0 (ji10))))) * 256)) + (wrap64 (bt a0 (ji14)))))))))) else (none)) else (some (x4_1, x5_1))) else (none)) else (none)) else (some (x4_1, x5_1))) = some (r1, r2) := H
                                    have A25 := Aside0.mk A250
                                    clear A250
                                    by_cases c26 : t141 = 0
                                    · rw [if_pos c26] at H
                                      have c26b0 : (t141 == 0) = true := beq_iff_eq.mpr c26
                                      have c26b1 : (t141 != 0) = false := bne_eq_false_iff_eq.mpr c26
                                      clear c26
                                      by_cases c27 : 0 ≤ x5_1
                                      · rw [if_pos c27] at H
                                        have c27b0 := eq_true c27
                                        have c27b1 : decide (0 ≤ x5_1) = true := decide_eq_true c27
                                        clear c27
                                        by_cases c28 : x5_1 ≤ (wrap64 ((ji21) + (wrap64 ((wrap64 ((wrap64 ((wrap64 ((wrap64 ((wrap64 ((wrap64 (bt a0 x5_1)) * 256)) + (wrap64 (bt a0 (ji6))))) * 256)) + (wrap64 (bt a0 (ji10))))) * 256)) + (wrap64 (bt a0 (ji14)))))))
                                        · rw [if_pos c28] at H
                                          have c28b0 := eq_true c28
                                          have c28b1 : decide (x5_1 ≤ (wrap64 ((ji21) + (wrap64 ((wrap64 ((wrap64 ((wrap64 ((wrap64 ((wrap64 ((wrap64 (bt a0 x5_1)) * 256)) + (wrap64 (bt a0 (ji6))))) * 256)) + (wrap64 (bt a0 (ji10))))) * 256)) + (wrap64 (bt a0 (ji14)))))))) = true := decide_eq_true c28
                                          have c29b0 := eq_true (of_decide_eq_true (by first | (with_reducible assumption) | assumption) : (wrap64 ((ji21) + (wrap64 ((wrap64 ((wrap64 ((wrap64 ((wrap64 ((wrap64 ((wrap64 (bt a0 x5_1)) * 256)) + (wrap64 (bt a0 (ji6))))) * 256)) + (wrap64 (bt a0 (ji10))))) * 256)) + (wrap64 (bt a0 (ji14))))))) ≤ (a0.size : Int))
                                          by_cases c30 : (a0.extract (x5_1 : Int).toNat ((wrap64 ((ji21) + (wrap64 ((wrap64 ((wrap64 ((wrap64 ((wrap64 ((wrap64 ((wrap64 (bt a0 x5_1)) * 256)) + (wrap64 (bt a0 (ji6))))) * 256)) + (wrap64 (bt a0 (ji10))))) * 256)) + (wrap64 (bt a0 (ji14))))))) : Int).toNat).toList = t140.toList
                                          · rw [if_pos c30] at H
                                            have c30b0 : ((a0.extract (x5_1 : Int).toNat ((wrap64 ((ji21) + (wrap64 ((wrap64 ((wrap64 ((wrap64 ((wrap64 ((wrap64 ((wrap64 (bt a0 x5_1)) * 256)) + (wrap64 (bt a0 (ji6))))) * 256)) + (wrap64 (bt a0 (ji10))))) * 256)) + (wrap64 (bt a0 (ji14))))))) : Int).toNat).toList == t140.toList) = true := beq_iff_eq.mpr c30
                                            have c30b1 : ((a0.extract (x5_1 : Int).toNat ((wrap64 ((ji21) + (wrap64 ((wrap64 ((wrap64 ((wrap64 ((wrap64 ((wrap64 ((wrap64 (bt a0 x5_1)) * 256)) + (wrap64 (bt a0 (ji6))))) * 256)) + (wrap64 (bt a0 (ji10))))) * 256)) + (wrap64 (bt a0 (ji14))))))) : Int).toNat).toList != t140.toList) = false := bne_eq_false_iff_eq.mpr c30
                                            clear c30
                                            by_cases c31 : x4_1.length < 8796093022208
                                            · rw [if_pos c31] at H
                                              have LMc31 := Aside0.mk c31
                                              clear c31
                                              obtain ⟨y142, hy142⟩ : ∃ y_ : List ByteArray, y_ = (x4_1 ++ [a0.extract ((ji21) : Int).toNat ((wrap64 ((ji21) + (wrap64 ((wrap64 ((wrap64 ((wrap64 ((wrap64 ((wrap64 ((wrap64 (bt a0 x5_1)) * 256)) + (wrap64 (bt a0 (ji6))))) * 256)) + (wrap64 (bt a0 (ji10))))) * 256)) + (wrap64 (bt a0 (ji14))))))) : Int).toNat]) := ⟨_, rfl⟩
                                              replace H : (lintelref03_Scan.l0 kj17 a0 y142 (wrap64 (x5_1 + (wrap64 (8 + (wrap64 ((wrap64 ((wrap64 ((wrap64 ((wrap64 ((wrap64 ((wrap64 (bt a0 x5_1)) * 256)) + (wrap64 (bt a0 (ji6))))) * 256)) + (wrap64 (bt a0 (ji10))))) * 256)) + (wrap64 (bt a0 (ji14)))))))))) = some (r1, r2) := by first | (rw [hy142]; with_reducible exact H) | (have H2_ := (Option.bind_some _ _).symm.trans H; rw [hy142]; with_reducible exact H2_) | (have H2_ := (Option.bind_some _ _).symm.trans H; with_reducible exact H2_) | with_reducible exact H | (rw [hy142]; exact H) | exact H
                                              have Ny142 := Aside0.mk hy142
                                              clear hy142
                                              have H' := Aside0.mk H
                                              clear H
                                              go_wp2_with (first | (go_at_call 13; (with_reducible refine (lintelref03_Put.calls kj17 (a0.extract ((ji21) : Int).toNat ((wrap64 ((ji21) + (wrap64 ((wrap64 ((wrap64 ((wrap64 ((wrap64 ((wrap64 ((wrap64 (bt a0 x5_1)) * 256)) + (wrap64 (bt a0 (ji6))))) * 256)) + (wrap64 (bt a0 (ji10))))) * 256)) + (wrap64 (bt a0 (ji14))))))) : Int).toNat) t140 t141 _ A25.out).mono ?_); rintro e w32 ⟨rfl, hb⟩; have n0_ := Aside0.mk (Kd.R_below (by (with_reducible repeat (first | apply Kd.R_alloc | apply Kd.R_drewN | apply Kd.R_drew)); exact HO_4.out) hb); have n1_ := Aside0.mk (below_step (by repeat (first | (with_reducible first | exact HB.out | apply below_alloc | apply pw_below_drewN | apply below_drew1) | exact HB.out)) hb); clear HO_4; clear HB; have HO_4 := n0_; have HB := n1_; clear n0_ n1_; (try clear hb); (try clear hb2); (try clear hk); (try clear hi)) | ((with_reducible refine gate_builtin (b := .append) (xs := #[.tmp 81, .tmp 83]) rfl ?_); (try (refine gate_guard (by rfl) ?_; dsimp only)); at_builtin; refine Kd.R_append Kd.string (w0 := w) w.heap.size rfl (.tmp 81) (.tmp 83) 31 9 (.string ⟨#[]⟩) 16 rfl Try.underlying31 info9 rfl (by decide) (by omega) u4 x4_1 (a0.extract ((ji21) : Int).toNat ((wrap64 ((ji21) + (wrap64 ((wrap64 ((wrap64 ((wrap64 ((wrap64 ((wrap64 ((wrap64 (bt a0 x5_1)) * 256)) + (wrap64 (bt a0 (ji6))))) * 256)) + (wrap64 (bt a0 (ji10))))) * 256)) + (wrap64 (bt a0 (ji14))))))) : Int).toNat) [.string (a0.extract ((ji21) : Int).toNat ((wrap64 ((ji21) + (wrap64 ((wrap64 ((wrap64 ((wrap64 ((wrap64 ((wrap64 ((wrap64 (bt a0 x5_1)) * 256)) + (wrap64 (bt a0 (ji6))))) * 256)) + (wrap64 (bt a0 (ji10))))) * 256)) + (wrap64 (bt a0 (ji14))))))) : Int).toNat)] (fun _ => True) (fun _ => False) rfl rfl ?aP (fun _ hk => hk.elim) ?aF ?aO ?aB ?aS ?aL ?_; (case aP => exact rfl); (case aB => exact (by repeat (first | (with_reducible first | exact HB.out | apply below_alloc | apply pw_below_drewN | apply below_drew1) | exact HB.out))); (case aF => exact (fun _ _ => trivial)); (case aO => exact (by (with_reducible repeat (first | apply Kd.R_alloc | apply Kd.R_drewN | apply Kd.R_drew)); exact HO_4.out)); (case aS => exact (below_size (by repeat (first | (with_reducible first | exact HB.out | apply below_alloc | apply pw_below_drewN | apply below_drew1) | exact HB.out)))); (case aL => have := LMc31.out; omega); intro v143 w33 ho hb hg hat; rw [← Ny142.out] at ho; have n0_ := Aside0.mk (hb); have n1_ := Aside0.mk (ho); clear HB; clear HO_4; have HB := n0_; have HO144 := n1_; clear n0_ n1_; clear ho hb hg hat))
                                              repeat (go_quiet (first | (go_at_call 13; (with_reducible refine (lintelref03_Put.calls kj17 (a0.extract ((ji21) : Int).toNat ((wrap64 ((ji21) + (wrap64 ((wrap64 ((wrap64 ((wrap64 ((wrap64 ((wrap64 ((wrap64 (bt a0 x5_1)) * 256)) + (wrap64 (bt a0 (ji6))))) * 256)) + (wrap64 (bt a0 (ji10))))) * 256)) + (wrap64 (bt a0 (ji14))))))) : Int).toNat) t140 t141 _ A25.out).mono ?_); rintro e w32 ⟨rfl, hb⟩; have n0_ := Aside0.mk (Kd.R_below (by (with_reducible repeat (first | apply Kd.R_alloc | apply Kd.R_drewN | apply Kd.R_drew)); exact HO_4.out) hb); have n1_ := Aside0.mk (below_step (by repeat (first | (with_reducible first | exact HB.out | apply below_alloc | apply pw_below_drewN | apply below_drew1) | exact HB.out)) hb); clear HO_4; clear HB; have HO_4 := n0_; have HB := n1_; clear n0_ n1_; (try clear hb); (try clear hb2); (try clear hk); (try clear hi)) | ((with_reducible refine gate_builtin (b := .append) (xs := #[.tmp 81, .tmp 83]) rfl ?_); (try (refine gate_guard (by rfl) ?_; dsimp only)); at_builtin; refine Kd.R_append Kd.string (w0 := w) w.heap.size rfl (.tmp 81) (.tmp 83) 31 9 (.string ⟨#[]⟩) 16 rfl Try.underlying31 info9 rfl (by decide) (by omega) u4 x4_1 (a0.extract ((ji21) : Int).toNat ((wrap64 ((ji21) + (wrap64 ((wrap64 ((wrap64 ((wrap64 ((wrap64 ((wrap64 ((wrap64 (bt a0 x5_1)) * 256)) + (wrap64 (bt a0 (ji6))))) * 256)) + (wrap64 (bt a0 (ji10))))) * 256)) + (wrap64 (bt a0 (ji14))))))) : Int).toNat) [.string (a0.extract ((ji21) : Int).toNat ((wrap64 ((ji21) + (wrap64 ((wrap64 ((wrap64 ((wrap64 ((wrap64 ((wrap64 ((wrap64 (bt a0 x5_1)) * 256)) + (wrap64 (bt a0 (ji6))))) * 256)) + (wrap64 (bt a0 (ji10))))) * 256)) + (wrap64 (bt a0 (ji14))))))) : Int).toNat)] (fun _ => True) (fun _ => False) rfl rfl ?aP (fun _ hk => hk.elim) ?aF ?aO ?aB ?aS ?aL ?_; (case aP => exact rfl); (case aB => exact (by repeat (first | (with_reducible first | exact HB.out | apply below_alloc | apply pw_below_drewN | apply below_drew1) | exact HB.out))); (case aF => exact (fun _ _ => trivial)); (case aO => exact (by (with_reducible repeat (first | apply Kd.R_alloc | apply Kd.R_drewN | apply Kd.R_drew)); exact HO_4.out)); (case aS => exact (below_size (by repeat (first | (with_reducible first | exact HB.out | apply below_alloc | apply pw_below_drewN | apply below_drew1) | exact HB.out)))); (case aL => have := LMc31.out; omega); intro v143 w33 ho hb hg hat; rw [← Ny142.out] at ho; have n0_ := Aside0.mk (hb); have n1_ := Aside0.mk (ho); clear HB; clear HO_4; have HB := n0_; have HO144 := n1_; clear n0_ n1_; clear ho hb hg hat)); try go_wp2_with (first | (go_at_call 13; (with_reducible refine (lintelref03_Put.calls kj17 (a0.extract ((ji21) : Int).toNat ((wrap64 ((ji21) + (wrap64 ((wrap64 ((wrap64 ((wrap64 ((wrap64 ((wrap64 ((wrap64 (bt a0 x5_1)) * 256)) + (wrap64 (bt a0 (ji6))))) * 256)) + (wrap64 (bt a0 (ji10))))) * 256)) + (wrap64 (bt a0 (ji14))))))) : Int).toNat) t140 t141 _ A25.out).mono ?_); rintro e w32 ⟨rfl, hb⟩; have n0_ := Aside0.mk (Kd.R_below (by (with_reducible repeat (first | apply Kd.R_alloc | apply Kd.R_drewN | apply Kd.R_drew)); exact HO_4.out) hb); have n1_ := Aside0.mk (below_step (by repeat (first | (with_reducible first | exact HB.out | apply below_alloc | apply pw_below_drewN | apply below_drew1) | exact HB.out)) hb); clear HO_4; clear HB; have HO_4 := n0_; have HB := n1_; clear n0_ n1_; (try clear hb); (try clear hb2); (try clear hk); (try clear hi)) | ((with_reducible refine gate_builtin (b := .append) (xs := #[.tmp 81, .tmp 83]) rfl ?_); (try (refine gate_guard (by rfl) ?_; dsimp only)); at_builtin; refine Kd.R_append Kd.string (w0 := w) w.heap.size rfl (.tmp 81) (.tmp 83) 31 9 (.string ⟨#[]⟩) 16 rfl Try.underlying31 info9 rfl (by decide) (by omega) u4 x4_1 (a0.extract ((ji21) : Int).toNat ((wrap64 ((ji21) + (wrap64 ((wrap64 ((wrap64 ((wrap64 ((wrap64 ((wrap64 ((wrap64 (bt a0 x5_1)) * 256)) + (wrap64 (bt a0 (ji6))))) * 256)) + (wrap64 (bt a0 (ji10))))) * 256)) + (wrap64 (bt a0 (ji14))))))) : Int).toNat) [.string (a0.extract ((ji21) : Int).toNat ((wrap64 ((ji21) + (wrap64 ((wrap64 ((wrap64 ((wrap64 ((wrap64 ((wrap64 ((wrap64 (bt a0 x5_1)) * 256)) + (wrap64 (bt a0 (ji6))))) * 256)) + (wrap64 (bt a0 (ji10))))) * 256)) + (wrap64 (bt a0 (ji14))))))) : Int).toNat)] (fun _ => True) (fun _ => False) rfl rfl ?aP (fun _ hk => hk.elim) ?aF ?aO ?aB ?aS ?aL ?_; (case aP => exact rfl); (case aB => exact (by repeat (first | (with_reducible first | exact HB.out | apply below_alloc | apply pw_below_drewN | apply below_drew1) | exact HB.out))); (case aF => exact (fun _ _ => trivial)); (case aO => exact (by (with_reducible repeat (first | apply Kd.R_alloc | apply Kd.R_drewN | apply Kd.R_drew)); exact HO_4.out)); (case aS => exact (below_size (by repeat (first | (with_reducible first | exact HB.out | apply below_alloc | apply pw_below_drewN | apply below_drew1) | exact HB.out)))); (case aL => have := LMc31.out; omega); intro v143 w33 ho hb hg hat; rw [← Ny142.out] at ho; have n0_ := Aside0.mk (hb); have n1_ := Aside0.mk (ho); clear HB; clear HO_4; have HB := n0_; have HO144 := n1_; clear n0_ n1_; clear ho hb hg hat)))
                                              go_roundg kj17
                                              case measure => have := HK1.out; have := HJ17.out; omega
                                              case rel => exact ⟨(y142), (wrap64 (x5_1 + (wrap64 (8 + (wrap64 ((wrap64 ((wrap64 ((wrap64 ((wrap64 ((wrap64 ((wrap64 (bt a0 x5_1)) * 256)) + (wrap64 (bt a0 (ji6))))) * 256)) + (wrap64 (bt a0 (ji10))))) * 256)) + (wrap64 (bt a0 (ji14))))))))), (by first | rfl | (simp; done) | (simp only [← hji6, ← hji10, ← hji14] <;> (first | rfl | simp)) | (simp [*]; done)), H', ⟨by have := HK1.out; have := HJ17.out; omega⟩, ⟨by (with_reducible repeat (first | apply Kd.R_alloc | apply Kd.R_drewN | apply Kd.R_drew)); exact HO144.out⟩, ⟨by repeat (first | (with_reducible first | exact HB.out | apply below_alloc | apply pw_below_drewN | apply below_drew1) | exact HB.out)⟩⟩
                                            · rw [if_neg c31] at H
                                              exact absurd H (by simp)
                                          · rw [if_neg c30] at H
                                            have c30b0 : ((a0.extract (x5_1 : Int).toNat ((wrap64 ((ji21) + (wrap64 ((wrap64 ((wrap64 ((wrap64 ((wrap64 ((wrap64 ((wrap64 (bt a0 x5_1)) * 256)) + (wrap64 (bt a0 (ji6))))) * 256)) + (wrap64 (bt a0 (ji10))))) * 256)) + (wrap64 (bt a0 (ji14))))))) : Int).toNat).toList == t140.toList) = false := beq_eq_false_iff_ne.mpr c30
                                            have c30b1 : ((a0.extract (x5_1 : Int).toNat ((wrap64 ((ji21) + (wrap64 ((wrap64 ((wrap64 ((wrap64 ((wrap64 ((wrap64 ((wrap64 (bt a0 x5_1)) * 256)) + (wrap64 (bt a0 (ji6))))) * 256)) + (wrap64 (bt a0 (ji10))))) * 256)) + (wrap64 (bt a0 (ji14))))))) : Int).toNat).toList != t140.toList) = true := bne_iff_ne.mpr c30
                                            simp only [Option.some.injEq, Prod.mk.injEq] at H
                                            obtain ⟨rfl, rfl⟩ := H
                                            go_wp2_with (first | (go_at_call 13; (with_reducible refine (lintelref03_Put.calls kj17 (a0.extract ((ji21) : Int).toNat ((wrap64 ((ji21) + (wrap64 ((wrap64 ((wrap64 ((wrap64 ((wrap64 ((wrap64 ((wrap64 (bt a0 x5_1)) * 256)) + (wrap64 (bt a0 (ji6))))) * 256)) + (wrap64 (bt a0 (ji10))))) * 256)) + (wrap64 (bt a0 (ji14))))))) : Int).toNat) t140 t141 _ A25.out).mono ?_); rintro e w34 ⟨rfl, hb⟩; have n0_ := Aside0.mk (Kd.R_below (by (with_reducible repeat (first | apply Kd.R_alloc | apply Kd.R_drewN | apply Kd.R_drew)); exact HO_4.out) hb); have n1_ := Aside0.mk (below_step (by repeat (first | (with_reducible first | exact HB.out | apply below_alloc | apply pw_below_drewN | apply below_drew1) | exact HB.out)) hb); clear HO_4; clear HB; have HO_4 := n0_; have HB := n1_; clear n0_ n1_; (try clear hb); (try clear hb2); (try clear hk); (try clear hi)))
                                            repeat (go_quiet (first | (go_at_call 13; (with_reducible refine (lintelref03_Put.calls kj17 (a0.extract ((ji21) : Int).toNat ((wrap64 ((ji21) + (wrap64 ((wrap64 ((wrap64 ((wrap64 ((wrap64 ((wrap64 ((wrap64 (bt a0 x5_1)) * 256)) + (wrap64 (bt a0 (ji6))))) * 256)) + (wrap64 (bt a0 (ji10))))) * 256)) + (wrap64 (bt a0 (ji14))))))) : Int).toNat) t140 t141 _ A25.out).mono ?_); rintro e w34 ⟨rfl, hb⟩; have n0_ := Aside0.mk (Kd.R_below (by (with_reducible repeat (first | apply Kd.R_alloc | apply Kd.R_drewN | apply Kd.R_drew)); exact HO_4.out) hb); have n1_ := Aside0.mk (below_step (by repeat (first | (with_reducible first | exact HB.out | apply below_alloc | apply pw_below_drewN | apply below_drew1) | exact HB.out)) hb); clear HO_4; clear HB; have HO_4 := n0_; have HB := n1_; clear n0_ n1_; (try clear hb); (try clear hb2); (try clear hk); (try clear hi))); try go_wp2_with (first | (go_at_call 13; (with_reducible refine (lintelref03_Put.calls kj17 (a0.extract ((ji21) : Int).toNat ((wrap64 ((ji21) + (wrap64 ((wrap64 ((wrap64 ((wrap64 ((wrap64 ((wrap64 ((wrap64 (bt a0 x5_1)) * 256)) + (wrap64 (bt a0 (ji6))))) * 256)) + (wrap64 (bt a0 (ji10))))) * 256)) + (wrap64 (bt a0 (ji14))))))) : Int).toNat) t140 t141 _ A25.out).mono ?_); rintro e w34 ⟨rfl, hb⟩; have n0_ := Aside0.mk (Kd.R_below (by (with_reducible repeat (first | apply Kd.R_alloc | apply Kd.R_drewN | apply Kd.R_drew)); exact HO_4.out) hb); have n1_ := Aside0.mk (below_step (by repeat (first | (with_reducible first | exact HB.out | apply below_alloc | apply pw_below_drewN | apply below_drew1) | exact HB.out)) hb); clear HO_4; clear HB; have HO_4 := n0_; have HB := n1_; clear n0_ n1_; (try clear hb); (try clear hb2); (try clear hk); (try clear hi))))
                                            go_ret2
                                            exact ⟨_, by first | rfl | (simp [errW_none, errW_some] <;> rfl) | (simp only [← hji6, ← hji10, ← hji14, ← hji21]; first | rfl | (simp [errW_none, errW_some] <;> rfl)) | (simp [*, errW_none, errW_some] <;> rfl), by (with_reducible repeat (first | apply Kd.R_alloc | apply Kd.R_drewN | apply Kd.R_drew)); exact HO_4.out, by repeat (first | (with_reducible first | exact HB.out | apply below_alloc | apply pw_below_drewN | apply below_drew1) | exact HB.out)⟩
                                        · rw [if_neg c28] at H
                                          exact absurd H (by simp)
                                      · rw [if_neg c27] at H
                                        exact absurd H (by simp)
                                    · rw [if_neg c26] at H
                                      have c26b0 : (t141 == 0) = false := beq_eq_false_iff_ne.mpr c26
                                      have c26b1 : (t141 != 0) = true := bne_iff_ne.mpr c26
                                      simp only [Option.some.injEq, Prod.mk.injEq] at H
                                      obtain ⟨rfl, rfl⟩ := H
                                      go_wp2_with (first | (go_at_call 13; (with_reducible refine (lintelref03_Put.calls kj17 (a0.extract ((ji21) : Int).toNat ((wrap64 ((ji21) + (wrap64 ((wrap64 ((wrap64 ((wrap64 ((wrap64 ((wrap64 ((wrap64 (bt a0 x5_1)) * 256)) + (wrap64 (bt a0 (ji6))))) * 256)) + (wrap64 (bt a0 (ji10))))) * 256)) + (wrap64 (bt a0 (ji14))))))) : Int).toNat) t140 t141 _ A25.out).mono ?_); rintro e w35 ⟨rfl, hb⟩; have n0_ := Aside0.mk (Kd.R_below (by (with_reducible repeat (first | apply Kd.R_alloc | apply Kd.R_drewN | apply Kd.R_drew)); exact HO_4.out) hb); have n1_ := Aside0.mk (below_step (by repeat (first | (with_reducible first | exact HB.out | apply below_alloc | apply pw_below_drewN | apply below_drew1) | exact HB.out)) hb); clear HO_4; clear HB; have HO_4 := n0_; have HB := n1_; clear n0_ n1_; (try clear hb); (try clear hb2); (try clear hk); (try clear hi)))
                                      repeat (go_quiet (first | (go_at_call 13; (with_reducible refine (lintelref03_Put.calls kj17 (a0.extract ((ji21) : Int).toNat ((wrap64 ((ji21) + (wrap64 ((wrap64 ((wrap64 ((wrap64 ((wrap64 ((wrap64 ((wrap64 (bt a0 x5_1)) * 256)) + (wrap64 (bt a0 (ji6))))) * 256)) + (wrap64 (bt a0 (ji10))))) * 256)) + (wrap64 (bt a0 (ji14))))))) : Int).toNat) t140 t141 _ A25.out).mono ?_); rintro e w35 ⟨rfl, hb⟩; have n0_ := Aside0.mk (Kd.R_below (by (with_reducible repeat (first | apply Kd.R_alloc | apply Kd.R_drewN | apply Kd.R_drew)); exact HO_4.out) hb); have n1_ := Aside0.mk (below_step (by repeat (first | (with_reducible first | exact HB.out | apply below_alloc | apply pw_below_drewN | apply below_drew1) | exact HB.out)) hb); clear HO_4; clear HB; have HO_4 := n0_; have HB := n1_; clear n0_ n1_; (try clear hb); (try clear hb2); (try clear hk); (try clear hi))); try go_wp2_with (first | (go_at_call 13; (with_reducible refine (lintelref03_Put.calls kj17 (a0.extract ((ji21) : Int).toNat ((wrap64 ((ji21) + (wrap64 ((wrap64 ((wrap64 ((wrap64 ((wrap64 ((wrap64 ((wrap64 (bt a0 x5_1)) * 256)) + (wrap64 (bt a0 (ji6))))) * 256)) + (wrap64 (bt a0 (ji10))))) * 256)) + (wrap64 (bt a0 (ji14))))))) : Int).toNat) t140 t141 _ A25.out).mono ?_); rintro e w35 ⟨rfl, hb⟩; have n0_ := Aside0.mk (Kd.R_below (by (with_reducible repeat (first | apply Kd.R_alloc | apply Kd.R_drewN | apply Kd.R_drew)); exact HO_4.out) hb); have n1_ := Aside0.mk (below_step (by repeat (first | (with_reducible first | exact HB.out | apply below_alloc | apply pw_below_drewN | apply below_drew1) | exact HB.out)) hb); clear HO_4; clear HB; have HO_4 := n0_; have HB := n1_; clear n0_ n1_; (try clear hb); (try clear hb2); (try clear hk); (try clear hi))))
                                      go_ret2
                                      exact ⟨_, by first | rfl | (simp [errW_none, errW_some] <;> rfl) | (simp only [← hji6, ← hji10, ← hji14, ← hji21]; first | rfl | (simp [errW_none, errW_some] <;> rfl)) | (simp [*, errW_none, errW_some] <;> rfl), by (with_reducible repeat (first | apply Kd.R_alloc | apply Kd.R_drewN | apply Kd.R_drew)); exact HO_4.out, by repeat (first | (with_reducible first | exact HB.out | apply below_alloc | apply pw_below_drewN | apply below_drew1) | exact HB.out)⟩
                                  · rw [if_neg c24] at H
                                    exact absurd H (by simp)
                                · rw [if_neg c23] at H
                                  exact absurd H (by simp)
                              · rw [if_neg c22] at H
                                exact absurd H (by simp)
                      · rw [if_neg c16] at H
                        exact absurd H (by simp)
                    · rw [if_neg c15] at H
                      exact absurd H (by simp)
                  · rw [if_neg c12] at H
                    exact absurd H (by simp)
                · rw [if_neg c11] at H
                  exact absurd H (by simp)
              · rw [if_neg c8] at H
                exact absurd H (by simp)
            · rw [if_neg c7] at H
              exact absurd H (by simp)
          · rw [if_neg c4] at H
            exact absurd H (by simp)
        · rw [if_neg c3] at H
          exact absurd H (by simp)
      · rw [if_neg c2] at H
        have c2b0 : decide ((wrap64 (x5_1 + 8)) ≤ (a0.size : Int)) = false := decide_eq_false c2
        clear c2
        simp only [Option.some.injEq, Prod.mk.injEq] at H
        obtain ⟨rfl, rfl⟩ := H
        go_wp2
        repeat (go_quiet (fail); try go_wp2)
        go_ret2
        exact ⟨_, by first | rfl | (simp [errW_none, errW_some] <;> rfl) | (simp [*, errW_none, errW_some] <;> rfl), by (with_reducible repeat (first | apply Kd.R_alloc | apply Kd.R_drewN | apply Kd.R_drew)); exact HO_4.out, by repeat (first | (with_reducible first | exact HB.out | apply below_alloc | apply pw_below_drewN | apply below_drew1) | exact HB.out)⟩

/-! ### lintelref03_Same: function 16 -/
def lintelref03_Same.l0 : Nat → List ByteArray → List ByteArray → Int → Option (Bool)
  | 0, _, _, _ => none
  | k + 1, x0, x1, x5 => if x5 < (x0.length : Int) then (if 0 ≤ x5 then (if x5 < (x1.length : Int) then (if (rdOf ByteArray.empty x0 x5).toList = (rdOf ByteArray.empty x1 x5).toList then (lintelref03_Same.l0 k x0 x1 (wrap64 (x5 + 1))) else (some false)) else (none)) else (none)) else (some true)
def lintelref03_Same.f (k : Nat) (l0 : List ByteArray) (l1 : List ByteArray) : Option (Bool) := if (l0.length : Int) = (l1.length : Int) then (lintelref03_Same.l0 k l0 l1 0) else (some false)
theorem lintelref03_Same.mono_l : ∀ k, (∀ y0 y1 y2, LeO (lintelref03_Same.l0 k y0 y1 y2) (lintelref03_Same.l0 (k + 1) y0 y1 y2))
  | 0 => fun _ _ _ r h => by simp [lintelref03_Same.l0] at h
  | k + 1 => by
    have ih0 := lintelref03_Same.mono_l k
    · intro y0 y1 y2
      unfold lintelref03_Same.l0
      repeat' first
      | (with_reducible exact ih0 _ _ _)
      | (with_reducible exact LeO.refl _)
      | (with_reducible exact LeO.none _)
      | (with_reducible refine LeO.ite ?_ ?_)
      | (with_reducible refine LeO.bind ?_ (fun _ => ?_))
      | exact ih0 _ _ _
      | exact LeO.none _
      | refine LeO.ite ?_ ?_
      | refine LeO.bind ?_ (fun _ => ?_)
theorem lintelref03_Same.mono : ∀ a0 a1 k, LeO (lintelref03_Same.f k a0 a1) (lintelref03_Same.f (k + 1) a0 a1) := by
  intro a0 a1 k
  have ih0 := lintelref03_Same.mono_l k
  unfold lintelref03_Same.f
  repeat' first
      | (with_reducible exact ih0 _ _ _)
      | (with_reducible exact LeO.refl _)
      | (with_reducible exact LeO.none _)
      | (with_reducible refine LeO.ite ?_ ?_)
      | (with_reducible refine LeO.bind ?_ (fun _ => ?_))
      | exact ih0 _ _ _
      | exact LeO.none _
      | refine LeO.ite ?_ ?_
      | refine LeO.bind ?_ (fun _ => ?_)
set_option maxHeartbeats 8000000 in
set_option maxRecDepth 100000 in
theorem lintelref03_Same.calls (k : Nat) (A0 : Option Addr) (c0 : Nat) (l0 : List ByteArray) (A1 : Option Addr) (c1 : Nat) (l1 : List ByteArray) (r : Bool) (w : World) (hr0 : Kd.C Kd.string w A0 l0.length l0) (hc0 : l0.length ≤ c0) (hr1 : Kd.C Kd.string w A1 l1.length l1) (hc1 : l1.length ≤ c1) (h : lintelref03_Same.f k l0 l1 = some r) :
    Calls Try.prog 16 #[.slice A0 l0.length c0, .slice A1 l1.length c1] w fun e w' => e = .returned (.bool r) ∧ Drawn0 w w' := by
  have HR0 := Aside0.mk hr0
  have HC0 := Aside0.mk hc0
  clear hr0 hc0
  have HR1 := Aside0.mk hr1
  have HC1 := Aside0.mk hc1
  clear hr1 hc1
  have H : (if (l0.length : Int) = (l1.length : Int) then (lintelref03_Same.l0 k l0 l1 0) else (some false)) = some r := h
  clear h
  by_cases c3 : (l0.length : Int) = (l1.length : Int)
  · rw [if_pos c3] at H
    have c3b0 : ((l0.length : Int) == (l1.length : Int)) = true := beq_iff_eq.mpr c3
    have c3b1 : ((l0.length : Int) != (l1.length : Int)) = false := bne_eq_false_iff_eq.mpr c3
    have c3b2 : (l0.length == l1.length) = true := by first | simpa using c3 | (simp at c3 ⊢; omega)
    clear c3
    have H' := Aside0.mk H
    clear H
    go_enter Try.func16, Try.ntmps16
    go_wp2
    repeat (go_quiet (fail); try go_wp2)
    go_loopg [5] k (fun kq v5 w' => ∃ (x5_1 : Int), v5 = .int .i64 x5_1 ∧ Aside0 (lintelref03_Same.l0 kq l0 l1 x5_1 = some r) ∧ Aside0 (kq ≤ k) ∧ Drawn0 w w')
    case atStart => exact ⟨(0), (by first | rfl | (simp; done) | (simp [*]; done)), H', ⟨Nat.le_refl _⟩, by repeat (first | exact Drawn0.refl _ | apply Drawn0.step)⟩
    case round =>
      clear H'
      try clear c1
      try clear p2
      try clear c3
      try clear c3b0
      try clear c3b1
      try clear c3b2
      obtain ⟨x5_1, rfl, HA, HK1, ⟨m1, rfl⟩⟩ := hrel
      cases gk with
      | zero => exact absurd HA.out (by simp [lintelref03_Same.l0])
      | succ k1 =>
        have H := HA.out
        clear HA
        simp only [lintelref03_Same.l0] at H
        by_cases c4 : x5_1 < (l0.length : Int)
        · rw [if_pos c4] at H
          have c4b0 : decide (x5_1 < (l0.length : Int)) = true := decide_eq_true c4
          clear c4
          by_cases c5 : 0 ≤ x5_1
          · rw [if_pos c5] at H
            have c5b0 : decide (0 ≤ x5_1) = true := decide_eq_true c5
            clear c5
            by_cases c6 : x5_1 < (l1.length : Int)
            · rw [if_pos c6] at H
              have c6b0 : decide (x5_1 < (l1.length : Int)) = true := decide_eq_true c6
              clear c6
              by_cases c7 : (rdOf ByteArray.empty l0 x5_1).toList = (rdOf ByteArray.empty l1 x5_1).toList
              · rw [if_pos c7] at H
                have c7b0 : ((rdOf ByteArray.empty l0 x5_1).toList == (rdOf ByteArray.empty l1 x5_1).toList) = true := beq_iff_eq.mpr c7
                have c7b1 : ((rdOf ByteArray.empty l0 x5_1).toList != (rdOf ByteArray.empty l1 x5_1).toList) = false := bne_eq_false_iff_eq.mpr c7
                clear c7
                have H' := Aside0.mk H
                clear H
                have p145 : 0 ≤ (x5_1 : Int) := of_decide_eq_true (by first | (with_reducible assumption) | assumption)
                have q145 : x5_1 < (l0.length : Int) := of_decide_eq_true (by first | (with_reducible assumption) | assumption)
                obtain ⟨ad145, e145, hx145_0⟩ := Kd.at_string HR0.out x5_1 p145 q145
                cases e145
                replace p145 := eq_true p145
                replace q145 := eq_true q145
                have p146 : 0 ≤ (x5_1 : Int) := of_decide_eq_true (by first | (with_reducible assumption) | assumption)
                have q146 : x5_1 < (l1.length : Int) := of_decide_eq_true (by first | (with_reducible assumption) | assumption)
                obtain ⟨ad146, e146, hx146_0⟩ := Kd.at_string HR1.out x5_1 p146 q146
                cases e146
                replace p146 := eq_true p146
                replace q146 := eq_true q146
                go_wp2
                repeat (go_quiet (fail); try go_wp2)
                go_roundg k1
                case measure => have := HK1.out; omega
                case rel => exact ⟨(wrap64 (x5_1 + 1)), (by first | rfl | (simp; done) | (simp [*]; done)), H', ⟨by have := HK1.out; omega⟩, by repeat (first | exact Drawn0.refl _ | apply Drawn0.step)⟩
              · rw [if_neg c7] at H
                have c7b0 : ((rdOf ByteArray.empty l0 x5_1).toList == (rdOf ByteArray.empty l1 x5_1).toList) = false := beq_eq_false_iff_ne.mpr c7
                have c7b1 : ((rdOf ByteArray.empty l0 x5_1).toList != (rdOf ByteArray.empty l1 x5_1).toList) = true := bne_iff_ne.mpr c7
                obtain rfl := Option.some.inj H
                have p145 : 0 ≤ (x5_1 : Int) := of_decide_eq_true (by first | (with_reducible assumption) | assumption)
                have q145 : x5_1 < (l0.length : Int) := of_decide_eq_true (by first | (with_reducible assumption) | assumption)
                obtain ⟨ad145, e145, hx145_0⟩ := Kd.at_string HR0.out x5_1 p145 q145
                cases e145
                replace p145 := eq_true p145
                replace q145 := eq_true q145
                have p146 : 0 ≤ (x5_1 : Int) := of_decide_eq_true (by first | (with_reducible assumption) | assumption)
                have q146 : x5_1 < (l1.length : Int) := of_decide_eq_true (by first | (with_reducible assumption) | assumption)
                obtain ⟨ad146, e146, hx146_0⟩ := Kd.at_string HR1.out x5_1 p146 q146
                cases e146
                replace p146 := eq_true p146
                replace q146 := eq_true q146
                go_wp2
                repeat (go_quiet (fail); try go_wp2)
                go_ret
                exact ⟨by first | rfl | (simp; done) | (simp [*]; done), by repeat (first | exact Drawn0.refl _ | apply Drawn0.step)⟩
            · rw [if_neg c6] at H
              exact absurd H (by simp)
          · rw [if_neg c5] at H
            exact absurd H (by simp)
        · rw [if_neg c4] at H
          have c4b0 : decide (x5_1 < (l0.length : Int)) = false := decide_eq_false c4
          clear c4
          obtain rfl := Option.some.inj H
          go_wp2
          repeat (go_quiet (fail); try go_wp2)
          go_ret
          exact ⟨by first | rfl | (simp; done) | (simp [*]; done), by repeat (first | exact Drawn0.refl _ | apply Drawn0.step)⟩
  · rw [if_neg c3] at H
    have c3b0 : ((l0.length : Int) == (l1.length : Int)) = false := beq_eq_false_iff_ne.mpr c3
    have c3b1 : ((l0.length : Int) != (l1.length : Int)) = true := bne_iff_ne.mpr c3
    have c3b2 : (l0.length == l1.length) = false := by first | simpa using c3 | (simp at c3 ⊢; omega)
    obtain rfl := Option.some.inj H
    go_enter Try.func16, Try.ntmps16
    go_wp2
    repeat (go_quiet (fail); try go_wp2)
    go_ret
    exact ⟨by first | rfl | (simp; done) | (simp [*]; done), by repeat (first | exact Drawn0.refl _ | apply Drawn0.step)⟩

/-! ### lintellaw03_StripScans: function 5 -/
mutual
def lintellaw03_StripScans.j0 : Nat → List ByteArray → List ByteArray → List ByteArray → Bool → Option (Bool)
  | 0, _, _, _, _ => none
  | k + 1, x3, x5, x7, x37 => if x37 = true then (some false) else (lintellaw03_StripScans.l0 k x3 x5 x7 (x3.length : Int) 0)
def lintellaw03_StripScans.l0 : Nat → List ByteArray → List ByteArray → List ByteArray → Int → Int → Option (Bool)
  | 0, _, _, _, _, _ => none
  | k + 1, x3, x5, x7, x39, x40 => if x40 < x39 then (if 0 ≤ x40 then (if x40 < (x3.length : Int) then (lintellaw03_StripScans.l0 k (x3.set (x40 : Int).toNat (⟨#[115, 112, 111, 105, 108, 116]⟩ : ByteArray)) x5 x7 x39 (wrap64 (x40 + 1))) else (none)) else (none)) else ((lintelref03_Same.f k x7 x5).bind fun t162 => (some t162))
end
def lintellaw03_StripScans.f (k : Nat) (a0 : ByteArray) : Option (Bool) := (strip_Scan.f k a0).bind fun bt147 => ((lintelref03_Scan.f k a0).bind fun bt151 => ((strip_Scan.f k a0).bind fun bt155 => ((lintellaw03_awake.f k).bind fun t159 => (if t159 = true then ((lintelref03_Same.f k bt147.1 bt151.1).bind fun t160 => (if t160 = true then (lintellaw03_StripScans.j0 k bt147.1 bt151.1 bt155.1 (bt147.2 != bt151.2)) else (lintellaw03_StripScans.j0 k bt147.1 bt151.1 bt155.1 true))) else (lintellaw03_StripScans.j0 k bt147.1 bt151.1 bt155.1 true)))))
theorem lintellaw03_StripScans.mono_l : ∀ k, (∀ y0 y1 y2 y3, LeO (lintellaw03_StripScans.j0 k y0 y1 y2 y3) (lintellaw03_StripScans.j0 (k + 1) y0 y1 y2 y3)) ∧ (∀ y0 y1 y2 y3 y4, LeO (lintellaw03_StripScans.l0 k y0 y1 y2 y3 y4) (lintellaw03_StripScans.l0 (k + 1) y0 y1 y2 y3 y4))
  | 0 => ⟨fun _ _ _ _ r h => by simp [lintellaw03_StripScans.j0] at h, fun _ _ _ _ _ r h => by simp [lintellaw03_StripScans.l0] at h⟩
  | k + 1 => by
    obtain ⟨ih0, ih1⟩ := lintellaw03_StripScans.mono_l k
    refine ⟨?_, ?_⟩
    · intro y0 y1 y2 y3
      unfold lintellaw03_StripScans.j0
      repeat' first
      | (with_reducible exact ih0 _ _ _ _)
      | (with_reducible exact ih1 _ _ _ _ _)
      | (with_reducible exact lintellaw03_awake.mono _)
      | (with_reducible exact lintelref03_Same.mono _ _ _)
      | (with_reducible exact lintelref03_Scan.mono _ _)
      | (with_reducible exact strip_Scan.mono _ _)
      | (with_reducible exact LeO.refl _)
      | (with_reducible exact LeO.none _)
      | (with_reducible refine LeO.ite ?_ ?_)
      | (with_reducible refine LeO.bind ?_ (fun _ => ?_))
      | exact ih0 _ _ _ _
      | exact ih1 _ _ _ _ _
      | exact lintellaw03_awake.mono _
      | exact lintelref03_Same.mono _ _ _
      | exact lintelref03_Scan.mono _ _
      | exact strip_Scan.mono _ _
      | exact LeO.none _
      | refine LeO.ite ?_ ?_
      | refine LeO.bind ?_ (fun _ => ?_)
    · intro y0 y1 y2 y3 y4
      unfold lintellaw03_StripScans.l0
      repeat' first
      | (with_reducible exact ih0 _ _ _ _)
      | (with_reducible exact ih1 _ _ _ _ _)
      | (with_reducible exact lintellaw03_awake.mono _)
      | (with_reducible exact lintelref03_Same.mono _ _ _)
      | (with_reducible exact lintelref03_Scan.mono _ _)
      | (with_reducible exact strip_Scan.mono _ _)
      | (with_reducible exact LeO.refl _)
      | (with_reducible exact LeO.none _)
      | (with_reducible refine LeO.ite ?_ ?_)
      | (with_reducible refine LeO.bind ?_ (fun _ => ?_))
      | exact ih0 _ _ _ _
      | exact ih1 _ _ _ _ _
      | exact lintellaw03_awake.mono _
      | exact lintelref03_Same.mono _ _ _
      | exact lintelref03_Scan.mono _ _
      | exact strip_Scan.mono _ _
      | exact LeO.none _
      | refine LeO.ite ?_ ?_
      | refine LeO.bind ?_ (fun _ => ?_)
theorem lintellaw03_StripScans.mono : ∀ a0 k, LeO (lintellaw03_StripScans.f k a0) (lintellaw03_StripScans.f (k + 1) a0) := by
  intro a0 k
  obtain ⟨ih0, ih1⟩ := lintellaw03_StripScans.mono_l k
  unfold lintellaw03_StripScans.f
  repeat' first
      | (with_reducible exact ih0 _ _ _ _)
      | (with_reducible exact ih1 _ _ _ _ _)
      | (with_reducible exact lintellaw03_awake.mono _)
      | (with_reducible exact lintelref03_Same.mono _ _ _)
      | (with_reducible exact lintelref03_Scan.mono _ _)
      | (with_reducible exact strip_Scan.mono _ _)
      | (with_reducible exact LeO.refl _)
      | (with_reducible exact LeO.none _)
      | (with_reducible refine LeO.ite ?_ ?_)
      | (with_reducible refine LeO.bind ?_ (fun _ => ?_))
      | exact ih0 _ _ _ _
      | exact ih1 _ _ _ _ _
      | exact lintellaw03_awake.mono _
      | exact lintelref03_Same.mono _ _ _
      | exact lintelref03_Scan.mono _ _
      | exact strip_Scan.mono _ _
      | exact LeO.none _
      | refine LeO.ite ?_ ?_
      | refine LeO.bind ?_ (fun _ => ?_)
set_option maxHeartbeats 8000000 in
set_option maxRecDepth 100000 in
theorem lintellaw03_StripScans.calls (k : Nat) (a0 : ByteArray) (r : Bool) (w : World) (h : lintellaw03_StripScans.f k a0 = some r) :
    Calls Try.prog 5 #[.string a0] w fun e w' => e = .returned (.bool r) ∧ Below w.heap.size w w' := by
  have HB := Aside0.mk (Below.refl w.heap.size w)
  have H : ((strip_Scan.f k a0).bind fun bt147 => ((lintelref03_Scan.f k a0).bind fun bt151 => ((strip_Scan.f k a0).bind fun bt155 => ((lintellaw03_awake.f k).bind fun t159 => (if t159 = true then ((lintelref03_Same.f k bt147.1 bt151.1).bind fun t160 => (if t160 = true then (lintellaw03_StripScans.j0 k bt147.1 bt151.1 bt155.1 (bt147.2 != bt151.2)) else (lintellaw03_StripScans.j0 k bt147.1 bt151.1 bt155.1 true))) else (lintellaw03_StripScans.j0 k bt147.1 bt151.1 bt155.1 true)))))) = some r := h
  clear h
  replace H := Option.bind_eq_some_iff.mp H
  obtain ⟨⟨t147, t148⟩, A20, H⟩ := H
  replace H : ((lintelref03_Scan.f k a0).bind fun bt151 => ((strip_Scan.f k a0).bind fun bt155 => ((lintellaw03_awake.f k).bind fun t159 => (if t159 = true then ((lintelref03_Same.f k t147 bt151.1).bind fun t160 => (if t160 = true then (lintellaw03_StripScans.j0 k t147 bt151.1 bt155.1 (t148 != bt151.2)) else (lintellaw03_StripScans.j0 k t147 bt151.1 bt155.1 true))) else (lintellaw03_StripScans.j0 k t147 bt151.1 bt155.1 true))))) = some r := H
  have A2 := Aside0.mk A20
  clear A20
  replace H := Option.bind_eq_some_iff.mp H
  obtain ⟨⟨t151, t152⟩, A30, H⟩ := H
  replace H : ((strip_Scan.f k a0).bind fun bt155 => ((lintellaw03_awake.f k).bind fun t159 => (if t159 = true then ((lintelref03_Same.f k t147 t151).bind fun t160 => (if t160 = true then (lintellaw03_StripScans.j0 k t147 t151 bt155.1 (t148 != t152)) else (lintellaw03_StripScans.j0 k t147 t151 bt155.1 true))) else (lintellaw03_StripScans.j0 k t147 t151 bt155.1 true)))) = some r := H
  have A3 := Aside0.mk A30
  clear A30
  replace H := Option.bind_eq_some_iff.mp H
  obtain ⟨⟨t155, t156⟩, A40, H⟩ := H
  replace H : ((lintellaw03_awake.f k).bind fun t159 => (if t159 = true then ((lintelref03_Same.f k t147 t151).bind fun t160 => (if t160 = true then (lintellaw03_StripScans.j0 k t147 t151 t155 (t148 != t152)) else (lintellaw03_StripScans.j0 k t147 t151 t155 true))) else (lintellaw03_StripScans.j0 k t147 t151 t155 true))) = some r := H
  have A4 := Aside0.mk A40
  clear A40
  have HC5 := Aside0.mk H
  clear H
  go_enter Try.func5, Try.ntmps5
  go_upto_region 4 with (first | ((with_reducible refine gate_callee (f := 14) rfl ?_); refine goesL_ (some 12) rfl rfl Try.func14 (by kernel_rfl) rfl #[.string a0] rfl (by (try simp only [List.map_toArray, List.map_cons, List.map_nil]); first | done | rfl | (simp only [List.length_drop, List.length_take]; rfl)) ?_; (with_reducible refine (strip_Scan.calls k a0 t147 t148 _ A2.out).mono ?_); rintro e w6 ⟨v149, rfl, ho0, hb⟩; refine ⟨_, rfl, ?_⟩; have n0_ := Aside0.mk (Kd.R_lower ho0 (below_size (by repeat (first | (with_reducible first | exact HB.out | apply below_alloc | apply pw_below_drewN | apply below_drew1) | exact HB.out)))); have n1_ := Aside0.mk (below_step (by repeat (first | (with_reducible first | exact HB.out | apply below_alloc | apply pw_below_drewN | apply below_drew1) | exact HB.out)) hb); clear HB; have HO150 := n0_; have HB := n1_; clear n0_ n1_; (try clear hb); (try clear hb2); (try clear hk); (try clear hi); (try clear ho0)) | ((with_reducible refine gate_callee (f := 15) rfl ?_); refine goesL_ (some 17) rfl rfl Try.func15 (by kernel_rfl) rfl #[.string a0] rfl (by (try simp only [List.map_toArray, List.map_cons, List.map_nil]); first | done | rfl | (simp only [List.length_drop, List.length_take]; rfl)) ?_; (with_reducible refine (lintelref03_Scan.calls k a0 t151 t152 _ A3.out).mono ?_); rintro e w7 ⟨v153, rfl, ho0, hb⟩; refine ⟨_, rfl, ?_⟩; have n0_ := Aside0.mk (Kd.R_elder' (by (with_reducible repeat (first | apply Kd.R_alloc | apply Kd.R_drewN | apply Kd.R_drew)); exact HO150.out) (Kd.R_base ho0) hb); have n1_ := Aside0.mk (Kd.R_lower (Kd.R_new' ho0 (Kd.R_lt (by (with_reducible repeat (first | apply Kd.R_alloc | apply Kd.R_drewN | apply Kd.R_drew)); exact HO150.out))) (below_size (by repeat (first | (with_reducible first | exact HB.out | apply below_alloc | apply pw_below_drewN | apply below_drew1) | exact HB.out)))); have n2_ := Aside0.mk (below_step (by repeat (first | (with_reducible first | exact HB.out | apply below_alloc | apply pw_below_drewN | apply below_drew1) | exact HB.out)) hb); clear HO150; clear HB; have HO150 := n0_; have HO154 := n1_; have HB := n2_; clear n0_ n1_ n2_; (try clear hb); (try clear hb2); (try clear hk); (try clear hi); (try clear ho0)) | ((with_reducible refine gate_callee (f := 14) rfl ?_); refine goesL_ (some 22) rfl rfl Try.func14 (by kernel_rfl) rfl #[.string a0] rfl (by (try simp only [List.map_toArray, List.map_cons, List.map_nil]); first | done | rfl | (simp only [List.length_drop, List.length_take]; rfl)) ?_; (with_reducible refine (strip_Scan.calls k a0 t155 t156 _ A4.out).mono ?_); rintro e w8 ⟨v157, rfl, ho0, hb⟩; refine ⟨_, rfl, ?_⟩; have n0_ := Aside0.mk (Kd.R_elder' (by (with_reducible repeat (first | apply Kd.R_alloc | apply Kd.R_drewN | apply Kd.R_drew)); exact HO150.out) (Kd.R_base ho0) hb); have n1_ := Aside0.mk (Kd.R_elder' (by (with_reducible repeat (first | apply Kd.R_alloc | apply Kd.R_drewN | apply Kd.R_drew)); exact HO154.out) (Kd.R_base ho0) hb); have n2_ := Aside0.mk (Kd.R_lower (Kd.R_new' (Kd.R_new' ho0 (Kd.R_lt (by (with_reducible repeat (first | apply Kd.R_alloc | apply Kd.R_drewN | apply Kd.R_drew)); exact HO150.out))) (Kd.R_lt (by (with_reducible repeat (first | apply Kd.R_alloc | apply Kd.R_drewN | apply Kd.R_drew)); exact HO154.out))) (below_size (by repeat (first | (with_reducible first | exact HB.out | apply below_alloc | apply pw_below_drewN | apply below_drew1) | exact HB.out)))); have n3_ := Aside0.mk (below_step (by repeat (first | (with_reducible first | exact HB.out | apply below_alloc | apply pw_below_drewN | apply below_drew1) | exact HB.out)) hb); clear HO150; clear HO154; clear HB; have HO150 := n0_; have HO154 := n1_; have HO158 := n2_; have HB := n3_; clear n0_ n1_ n2_ n3_; (try clear hb); (try clear hb2); (try clear hk); (try clear hi); (try clear ho0)))
  (try simp only [Act.put, List.setIfInBounds_toArray, List.set_cons_zero, List.set_cons_succ])
  go_cut [37] (fun v37 wc => ∃ (kq : Nat) (x37_4 : Bool), v37 = .bool x37_4 ∧ Aside0 (lintellaw03_StripScans.j0 kq t147 t151 t155 x37_4 = some r) ∧ Aside0 (kq ≤ k) ∧ Aside0 (Kd.R Kd.string 9 wc w.heap.size (fun k_ => some k_ ≠ (v153 : Value).ownBlock ∧ some k_ ≠ (v157 : Value).ownBlock) v149 t147) ∧ Aside0 (Kd.R Kd.string 9 wc w.heap.size (fun k_ => some k_ ≠ (v149 : Value).ownBlock ∧ some k_ ≠ (v157 : Value).ownBlock) v153 t151) ∧ Aside0 (Kd.R Kd.string 9 wc w.heap.size (fun k_ => some k_ ≠ (v149 : Value).ownBlock ∧ some k_ ≠ (v153 : Value).ownBlock) v157 t155) ∧ Aside0 (Below w.heap.size w wc))
  case first =>
    have H := HC5.out
    clear HC5
    replace H := Option.bind_eq_some_iff.mp H
    obtain ⟨t159, A90, H⟩ := H
    replace H : (if t159 = true then ((lintelref03_Same.f k t147 t151).bind fun t160 => (if t160 = true then (lintellaw03_StripScans.j0 k t147 t151 t155 (t148 != t152)) else (lintellaw03_StripScans.j0 k t147 t151 t155 true))) else (lintellaw03_StripScans.j0 k t147 t151 t155 true)) = some r := H
    have A9 := Aside0.mk A90
    clear A90
    by_cases c10 : t159 = true
    · subst c10
      have H1 : ((lintelref03_Same.f k t147 t151).bind fun t160 => (if t160 = true then (lintellaw03_StripScans.j0 k t147 t151 t155 (t148 != t152)) else (lintellaw03_StripScans.j0 k t147 t151 t155 true))) = some r := by rw [if_pos rfl] at H; exact H
      clear H
      have H := H1
      clear H1
      replace H := Option.bind_eq_some_iff.mp H
      obtain ⟨t160, A110, H⟩ := H
      replace H : (if t160 = true then (lintellaw03_StripScans.j0 k t147 t151 t155 (t148 != t152)) else (lintellaw03_StripScans.j0 k t147 t151 t155 true)) = some r := H
      have A11 := Aside0.mk A110
      clear A110
      by_cases c12 : t160 = true
      · subst c12
        have H1 : (lintellaw03_StripScans.j0 k t147 t151 t155 (t148 != t152)) = some r := by rw [if_pos rfl] at H; exact H
        clear H
        have H := H1
        clear H1
        have H' := Aside0.mk H
        clear H
        go_wp2_with (first | ((with_reducible refine gate_callee (f := 9) rfl ?_); refine goesL_ (some 25) rfl rfl Try.func9 (by kernel_rfl) rfl #[] rfl (by (try simp only [List.map_toArray, List.map_cons, List.map_nil]); first | done | rfl | (simp only [List.length_drop, List.length_take]; rfl)) ?_; (with_reducible refine (lintellaw03_awake.calls k  true _ A9.out).mono ?_); rintro e w13 ⟨rfl, hb⟩; refine ⟨_, rfl, ?_⟩; have n0_ := Aside0.mk (Kd.R_below (by (with_reducible repeat (first | apply Kd.R_alloc | apply Kd.R_drewN | apply Kd.R_drew)); exact HO150.out) hb); have n1_ := Aside0.mk (Kd.R_below (by (with_reducible repeat (first | apply Kd.R_alloc | apply Kd.R_drewN | apply Kd.R_drew)); exact HO154.out) hb); have n2_ := Aside0.mk (Kd.R_below (by (with_reducible repeat (first | apply Kd.R_alloc | apply Kd.R_drewN | apply Kd.R_drew)); exact HO158.out) hb); have n3_ := Aside0.mk (below_step (by repeat (first | (with_reducible first | exact HB.out | apply below_alloc | apply pw_below_drewN | apply below_drew1) | exact HB.out)) hb); clear HO150; clear HO154; clear HO158; clear HB; have HO150 := n0_; have HO154 := n1_; have HO158 := n2_; have HB := n3_; clear n0_ n1_ n2_ n3_; (try clear hb); (try clear hb2); (try clear hk); (try clear hi); obtain ⟨Ao14, co14, eo14⟩ := Kd.R_slice HO150.out; subst eo14; obtain ⟨Ao15, co15, eo15⟩ := Kd.R_slice HO154.out; subst eo15) | (go_at_call 16; (with_reducible refine (lintelref03_Same.calls k _ _ t147 _ _ t151 true _ ?side1 ?side2 ?side3 ?side4 A11.out).mono ?_); (case side1 => repeat (first | exact (Kd.R_reads' HO150.out).2.2 | (with_reducible refine Kd.C_alloc ?_ _) | (with_reducible refine Kd.C_drewN ?_ _) | (with_reducible refine Kd.C_drew ?_))); (case side2 => exact (Kd.R_reads' HO150.out).2.1); (case side3 => repeat (first | exact (Kd.R_reads' HO154.out).2.2 | (with_reducible refine Kd.C_alloc ?_ _) | (with_reducible refine Kd.C_drewN ?_ _) | (with_reducible refine Kd.C_drew ?_))); (case side4 => exact (Kd.R_reads' HO154.out).2.1); rintro e w' ⟨rfl, ⟨nd, rfl⟩⟩))
        go_meet
        case rel => exact ⟨_, ((t148 != t152)), (by first | rfl | (simp; done) | (simp [*]; done)), H', ⟨by first | omega | exact Nat.le_refl _⟩, ⟨by (with_reducible repeat (first | apply Kd.R_alloc | apply Kd.R_drewN | apply Kd.R_drew)); exact Kd.R_mono HO150.out (fun _ hk => ⟨hk.1.2, hk.2⟩)⟩, ⟨by (with_reducible repeat (first | apply Kd.R_alloc | apply Kd.R_drewN | apply Kd.R_drew)); exact Kd.R_mono HO154.out (fun _ hk => ⟨hk.1.2, hk.2⟩)⟩, ⟨by (with_reducible repeat (first | apply Kd.R_alloc | apply Kd.R_drewN | apply Kd.R_drew)); exact Kd.R_mono HO158.out (fun _ hk => ⟨hk.1.2, hk.2⟩)⟩, ⟨by repeat (first | (with_reducible first | exact HB.out | apply below_alloc | apply pw_below_drewN | apply below_drew1) | exact HB.out)⟩⟩
      · replace c12 := Bool.eq_false_iff.mpr c12
        subst c12
        have H1 : (lintellaw03_StripScans.j0 k t147 t151 t155 true) = some r := by rw [if_neg (show ¬ (false = true) by decide)] at H; exact H
        clear H
        have H := H1
        clear H1
        have H' := Aside0.mk H
        clear H
        go_wp2_with (first | ((with_reducible refine gate_callee (f := 9) rfl ?_); refine goesL_ (some 25) rfl rfl Try.func9 (by kernel_rfl) rfl #[] rfl (by (try simp only [List.map_toArray, List.map_cons, List.map_nil]); first | done | rfl | (simp only [List.length_drop, List.length_take]; rfl)) ?_; (with_reducible refine (lintellaw03_awake.calls k  true _ A9.out).mono ?_); rintro e w16 ⟨rfl, hb⟩; refine ⟨_, rfl, ?_⟩; have n0_ := Aside0.mk (Kd.R_below (by (with_reducible repeat (first | apply Kd.R_alloc | apply Kd.R_drewN | apply Kd.R_drew)); exact HO150.out) hb); have n1_ := Aside0.mk (Kd.R_below (by (with_reducible repeat (first | apply Kd.R_alloc | apply Kd.R_drewN | apply Kd.R_drew)); exact HO154.out) hb); have n2_ := Aside0.mk (Kd.R_below (by (with_reducible repeat (first | apply Kd.R_alloc | apply Kd.R_drewN | apply Kd.R_drew)); exact HO158.out) hb); have n3_ := Aside0.mk (below_step (by repeat (first | (with_reducible first | exact HB.out | apply below_alloc | apply pw_below_drewN | apply below_drew1) | exact HB.out)) hb); clear HO150; clear HO154; clear HO158; clear HB; have HO150 := n0_; have HO154 := n1_; have HO158 := n2_; have HB := n3_; clear n0_ n1_ n2_ n3_; (try clear hb); (try clear hb2); (try clear hk); (try clear hi); obtain ⟨Ao17, co17, eo17⟩ := Kd.R_slice HO150.out; subst eo17; obtain ⟨Ao18, co18, eo18⟩ := Kd.R_slice HO154.out; subst eo18) | (go_at_call 16; (with_reducible refine (lintelref03_Same.calls k _ _ t147 _ _ t151 false _ ?side1 ?side2 ?side3 ?side4 A11.out).mono ?_); (case side1 => repeat (first | exact (Kd.R_reads' HO150.out).2.2 | (with_reducible refine Kd.C_alloc ?_ _) | (with_reducible refine Kd.C_drewN ?_ _) | (with_reducible refine Kd.C_drew ?_))); (case side2 => exact (Kd.R_reads' HO150.out).2.1); (case side3 => repeat (first | exact (Kd.R_reads' HO154.out).2.2 | (with_reducible refine Kd.C_alloc ?_ _) | (with_reducible refine Kd.C_drewN ?_ _) | (with_reducible refine Kd.C_drew ?_))); (case side4 => exact (Kd.R_reads' HO154.out).2.1); rintro e w' ⟨rfl, ⟨nd, rfl⟩⟩))
        go_meet
        case rel => exact ⟨_, (true), (by first | rfl | (simp; done) | (simp [*]; done)), H', ⟨by first | omega | exact Nat.le_refl _⟩, ⟨by (with_reducible repeat (first | apply Kd.R_alloc | apply Kd.R_drewN | apply Kd.R_drew)); exact Kd.R_mono HO150.out (fun _ hk => ⟨hk.1.2, hk.2⟩)⟩, ⟨by (with_reducible repeat (first | apply Kd.R_alloc | apply Kd.R_drewN | apply Kd.R_drew)); exact Kd.R_mono HO154.out (fun _ hk => ⟨hk.1.2, hk.2⟩)⟩, ⟨by (with_reducible repeat (first | apply Kd.R_alloc | apply Kd.R_drewN | apply Kd.R_drew)); exact Kd.R_mono HO158.out (fun _ hk => ⟨hk.1.2, hk.2⟩)⟩, ⟨by repeat (first | (with_reducible first | exact HB.out | apply below_alloc | apply pw_below_drewN | apply below_drew1) | exact HB.out)⟩⟩
    · replace c10 := Bool.eq_false_iff.mpr c10
      subst c10
      have H1 : (lintellaw03_StripScans.j0 k t147 t151 t155 true) = some r := by rw [if_neg (show ¬ (false = true) by decide)] at H; exact H
      clear H
      have H := H1
      clear H1
      have H' := Aside0.mk H
      clear H
      go_wp2_with (first | ((with_reducible refine gate_callee (f := 9) rfl ?_); refine goesL_ (some 25) rfl rfl Try.func9 (by kernel_rfl) rfl #[] rfl (by (try simp only [List.map_toArray, List.map_cons, List.map_nil]); first | done | rfl | (simp only [List.length_drop, List.length_take]; rfl)) ?_; (with_reducible refine (lintellaw03_awake.calls k  false _ A9.out).mono ?_); rintro e w19 ⟨rfl, hb⟩; refine ⟨_, rfl, ?_⟩; have n0_ := Aside0.mk (Kd.R_below (by (with_reducible repeat (first | apply Kd.R_alloc | apply Kd.R_drewN | apply Kd.R_drew)); exact HO150.out) hb); have n1_ := Aside0.mk (Kd.R_below (by (with_reducible repeat (first | apply Kd.R_alloc | apply Kd.R_drewN | apply Kd.R_drew)); exact HO154.out) hb); have n2_ := Aside0.mk (Kd.R_below (by (with_reducible repeat (first | apply Kd.R_alloc | apply Kd.R_drewN | apply Kd.R_drew)); exact HO158.out) hb); have n3_ := Aside0.mk (below_step (by repeat (first | (with_reducible first | exact HB.out | apply below_alloc | apply pw_below_drewN | apply below_drew1) | exact HB.out)) hb); clear HO150; clear HO154; clear HO158; clear HB; have HO150 := n0_; have HO154 := n1_; have HO158 := n2_; have HB := n3_; clear n0_ n1_ n2_ n3_; (try clear hb); (try clear hb2); (try clear hk); (try clear hi)))
      go_meet
      case rel => exact ⟨_, (true), (by first | rfl | (simp; done) | (simp [*]; done)), H', ⟨by first | omega | exact Nat.le_refl _⟩, ⟨by (with_reducible repeat (first | apply Kd.R_alloc | apply Kd.R_drewN | apply Kd.R_drew)); exact Kd.R_mono HO150.out (fun _ hk => ⟨hk.1.2, hk.2⟩)⟩, ⟨by (with_reducible repeat (first | apply Kd.R_alloc | apply Kd.R_drewN | apply Kd.R_drew)); exact Kd.R_mono HO154.out (fun _ hk => ⟨hk.1.2, hk.2⟩)⟩, ⟨by (with_reducible repeat (first | apply Kd.R_alloc | apply Kd.R_drewN | apply Kd.R_drew)); exact Kd.R_mono HO158.out (fun _ hk => ⟨hk.1.2, hk.2⟩)⟩, ⟨by repeat (first | (with_reducible first | exact HB.out | apply below_alloc | apply pw_below_drewN | apply below_drew1) | exact HB.out)⟩⟩
  case rest =>
    clear HC5
    try clear c1
    try clear p2
    try clear c5
    try clear c9
    try clear c10
    try clear c12
    try clear c14
    try clear c15
    obtain ⟨kq, x37_4, rfl, HA, HJ4, HO_3, HO_5, HO_7, HB⟩ := hcut
    cases kq with
    | zero => exact absurd HA.out (by simp [lintellaw03_StripScans.j0])
    | succ kj4 =>
      have H := HA.out
      clear HA
      simp only [lintellaw03_StripScans.j0] at H
      by_cases c20 : x37_4 = true
      · subst c20
        have H1 : (some false) = some r := by rw [if_pos rfl] at H; exact H
        clear H
        have H := H1
        clear H1
        obtain rfl := Option.some.inj H
        go_wp2
        go_ret
        exact ⟨by first | rfl | (simp [errW_none, errW_some] <;> rfl) | (simp [*, errW_none, errW_some] <;> rfl), by repeat (first | (with_reducible first | exact HB.out | apply below_alloc | apply pw_below_drewN | apply below_drew1) | exact HB.out)⟩
      · replace c20 := Bool.eq_false_iff.mpr c20
        subst c20
        have H1 : (lintellaw03_StripScans.l0 kj4 t147 t151 t155 (t147.length : Int) 0) = some r := by rw [if_neg (show ¬ (false = true) by decide)] at H; exact H
        clear H
        have H := H1
        clear H1
        have H' := Aside0.mk H
        clear H
        obtain ⟨Ao21, co21, eo21⟩ := Kd.R_slice HO_3.out
        subst eo21
        go_wp2
        go_loopg [40] kj4 (fun kq v40 w' => ∃ (x3_2 : List ByteArray) (x40_2 : Int), v40 = .int .i64 x40_2 ∧ Aside0 (lintellaw03_StripScans.l0 kq x3_2 t151 t155 (t147.length : Int) x40_2 = some r) ∧ Aside0 (kq ≤ kj4) ∧ Aside0 (Kd.R Kd.string 9 w' w.heap.size (fun k_ => some k_ ≠ (v153 : Value).ownBlock ∧ some k_ ≠ (v157 : Value).ownBlock) (.slice Ao21 t147.length co21) x3_2) ∧ Aside0 (Kd.R Kd.string 9 w' w.heap.size (fun k_ => some k_ ≠ ((.slice Ao21 t147.length co21) : Value).ownBlock ∧ some k_ ≠ (v157 : Value).ownBlock) v153 t151) ∧ Aside0 (Kd.R Kd.string 9 w' w.heap.size (fun k_ => some k_ ≠ ((.slice Ao21 t147.length co21) : Value).ownBlock ∧ some k_ ≠ (v153 : Value).ownBlock) v157 t155) ∧ Aside0 (Below w.heap.size w w'))
        case atStart => exact ⟨(t147), (0), (by first | rfl | (simp; done) | (simp [*]; done)), H', ⟨Nat.le_refl _⟩, ⟨by (with_reducible repeat (first | apply Kd.R_alloc | apply Kd.R_drewN | apply Kd.R_drew)); exact HO_3.out⟩, ⟨by (with_reducible repeat (first | apply Kd.R_alloc | apply Kd.R_drewN | apply Kd.R_drew)); exact HO_5.out⟩, ⟨by (with_reducible repeat (first | apply Kd.R_alloc | apply Kd.R_drewN | apply Kd.R_drew)); exact HO_7.out⟩, ⟨by repeat (first | (with_reducible first | exact HB.out | apply below_alloc | apply pw_below_drewN | apply below_drew1) | exact HB.out)⟩⟩
        case round =>
          clear H'
          try clear c1
          try clear c2
          try clear p2
          try clear c5
          try clear c9
          try clear c10
          try clear c12
          try clear c14
          try clear c15
          try clear c20
          try clear p2
          obtain ⟨x3_2, x40_2, rfl, HA, HK2, HO_3, HO_5, HO_7, HB⟩ := hrel
          have hl3_2 := (Kd.R_reads' HO_3.out).1
          rw [hl3_2] at HO_3
          (try simp only [hl3_2])
          (try simp only [hl3_2] at HO_5)
          (try simp only [hl3_2] at HO_7)
          cases gk with
          | zero => exact absurd HA.out (by simp [lintellaw03_StripScans.l0])
          | succ k2 =>
            have H := HA.out
            clear HA
            simp only [lintellaw03_StripScans.l0] at H
            by_cases c22 : x40_2 < (t147.length : Int)
            · rw [if_pos c22] at H
              have c22b0 : decide (x40_2 < (t147.length : Int)) = true := decide_eq_true c22
              clear c22
              by_cases c23 : 0 ≤ x40_2
              · rw [if_pos c23] at H
                have c23b0 : decide (0 ≤ x40_2) = true := decide_eq_true c23
                clear c23
                by_cases c24 : x40_2 < (x3_2.length : Int)
                · rw [if_pos c24] at H
                  have c24b0 : decide (x40_2 < (x3_2.length : Int)) = true := decide_eq_true c24
                  clear c24
                  obtain ⟨y161, hy161⟩ : ∃ y_ : List ByteArray, y_ = (x3_2.set (x40_2 : Int).toNat (⟨#[115, 112, 111, 105, 108, 116]⟩ : ByteArray)) := ⟨_, rfl⟩
                  replace H : (lintellaw03_StripScans.l0 k2 y161 t151 t155 (t147.length : Int) (wrap64 (x40_2 + 1))) = some r := by first | (rw [hy161]; with_reducible exact H) | (have H2_ := (Option.bind_some _ _).symm.trans H; rw [hy161]; with_reducible exact H2_) | (have H2_ := (Option.bind_some _ _).symm.trans H; with_reducible exact H2_) | with_reducible exact H | (rw [hy161]; exact H) | exact H
                  have Ny161 := Aside0.mk hy161
                  clear hy161
                  have H' := Aside0.mk H
                  clear H
                  have p25 : 0 ≤ (x40_2 : Int) := of_decide_eq_true (by first | (with_reducible assumption) | assumption)
                  have q25 : (x40_2 : Int) < ((x3_2.length : Int) : Int) := of_decide_eq_true (by first | (with_reducible assumption) | assumption)
                  obtain ⟨go25, co25, eo25, gb25, gl25, cl25, HG25⟩ := Kd.R_form HO_3.out (by omega)
                  (first | cases eo25 | (injection eo25 with ea_ en_ ec_; (first | subst ea_ | (injection ea_ with ea_; subst ea_)); subst ec_; clear en_))
                  have GB25 := Aside0.mk gb25
                  have GG25 := Aside0.mk HG25
                  clear gb25 gl25 HG25
                  obtain ⟨hx25_0, hf25_0⟩ := Kd.R_celln (⟨#[]⟩ : ByteArray) HO_3.out (x40_2 : Int) p25 q25
                  replace p25 := eq_true p25
                  replace q25 := eq_true q25
                  have HP26 := Kd.R_putg HO_3.out (x40_2 : Int) (⟨#[115, 112, 111, 105, 108, 116]⟩ : ByteArray)
                  go_wp2_with (first | ((with_reducible refine gate_store (t := 9) (p := 45) rfl ?_); refine store_event (t := 9) (p := 45) (v := ?vo_w27) (w1 := (wr.setCell ⟨go25, (x40_2 : Int).toNat, none⟩ (.string (⟨#[115, 112, 111, 105, 108, 116]⟩ : ByteArray)))) ?hg ?ho ?hn ?hr ?_; (case ho => rfl); (case hg => rfl); (case hn => rfl); (case hr => first | (go_simp; done) | (go_simp; rfl)); intro w27 hw; have hg : wr.grownBy w27 (some go25) := (by rw [hw]; exact HP26.2); have hp_ : Kd.R Kd.string 9 w27 w.heap.size (fun k_ => some k_ ≠ (v153 : Value).ownBlock ∧ some k_ ≠ (v157 : Value).ownBlock) (.slice (some ⟨go25, 0, none⟩) x3_2.length co21) y161 := (by rw [hw, Ny161.out]; exact HP26.1); clear HP26; have n0_ := Aside0.mk (hp_); have n1_ := Aside0.mk (Kd.R_after (v := (.slice (some ⟨go25, 0, none⟩) x3_2.length co21)) (v1 := (.slice (some ⟨go25, 0, none⟩) x3_2.length co21)) (ok := (fun k_ => some k_ ≠ (v157 : Value).ownBlock)) (by (with_reducible repeat (first | apply Kd.R_alloc | apply Kd.R_drewN | apply Kd.R_drew)); exact Kd.R_mono HO_5.out (fun _ hk => ⟨hk.2, hk.1⟩)) hg (.inl rfl)); have n2_ := Aside0.mk (Kd.R_after (v := (.slice (some ⟨go25, 0, none⟩) x3_2.length co21)) (v1 := (.slice (some ⟨go25, 0, none⟩) x3_2.length co21)) (ok := (fun k_ => some k_ ≠ (v153 : Value).ownBlock)) (by (with_reducible repeat (first | apply Kd.R_alloc | apply Kd.R_drewN | apply Kd.R_drew)); exact Kd.R_mono HO_7.out (fun _ hk => ⟨hk.2, hk.1⟩)) hg (.inl rfl)); have n3_ := Aside0.mk ((by rw [hw]; exact below_set (HB.out) GB25.out : Below w.heap.size w w27)); clear HO_3; clear HO_5; clear HO_7; clear HB; have HO_3 := n0_; have HO_5 := n1_; have HO_7 := n2_; have HB := n3_; clear n0_ n1_ n2_ n3_; clear hg hw hp_))
                  (try simp only [← hl3_2])
                  go_roundg k2
                  case measure => have := HJ4.out; have := HK2.out; omega
                  case rel => exact ⟨(y161), (wrap64 (x40_2 + 1)), (by first | rfl | (simp; done) | (simp [*]; done)), H', ⟨by have := HJ4.out; have := HK2.out; omega⟩, ⟨by (try simp only [hl3_2]); (with_reducible repeat (first | apply Kd.R_alloc | apply Kd.R_drewN | apply Kd.R_drew)); exact HO_3.out⟩, ⟨by (try simp only [hl3_2]); (with_reducible repeat (first | apply Kd.R_alloc | apply Kd.R_drewN | apply Kd.R_drew)); exact Kd.R_mono HO_5.out (fun _ hk => ⟨hk.2, hk.1⟩)⟩, ⟨by (try simp only [hl3_2]); (with_reducible repeat (first | apply Kd.R_alloc | apply Kd.R_drewN | apply Kd.R_drew)); exact Kd.R_mono HO_7.out (fun _ hk => ⟨hk.2, hk.1⟩)⟩, ⟨by repeat (first | (with_reducible first | exact HB.out | apply below_alloc | apply pw_below_drewN | apply below_drew1) | exact HB.out)⟩⟩
                · rw [if_neg c24] at H
                  exact absurd H (by simp)
              · rw [if_neg c23] at H
                exact absurd H (by simp)
            · rw [if_neg c22] at H
              have c22b0 : decide (x40_2 < (t147.length : Int)) = false := decide_eq_false c22
              rw [hl3_2] at c22b0
              clear c22
              replace H := Option.bind_eq_some_iff.mp H
              obtain ⟨t162, A280, H⟩ := H
              replace H : (some t162) = some r := H
              have A28 := Aside0.mk A280
              clear A280
              obtain rfl := Option.some.inj H
              obtain ⟨Ao29, co29, eo29⟩ := Kd.R_slice HO_7.out
              subst eo29
              obtain ⟨Ao30, co30, eo30⟩ := Kd.R_slice HO_5.out
              subst eo30
              go_wp2_with (first | ((with_reducible refine gate_callee (f := 16) rfl ?_); refine goesL_ (some 49) rfl rfl Try.func16 (by kernel_rfl) rfl #[.slice Ao29 t155.length co29, .slice Ao30 t151.length co30] rfl (by (try simp only [List.map_toArray, List.map_cons, List.map_nil]); first | done | rfl | (simp only [List.length_drop, List.length_take]; rfl)) ?_; (with_reducible refine (lintelref03_Same.calls k2 _ _ t155 _ _ t151 t162 _ ?side1 ?side2 ?side3 ?side4 A28.out).mono ?_); (case side1 => repeat (first | exact (Kd.R_reads' HO_7.out).2.2 | (with_reducible refine Kd.C_alloc ?_ _) | (with_reducible refine Kd.C_drewN ?_ _) | (with_reducible refine Kd.C_drew ?_))); (case side2 => exact (Kd.R_reads' HO_7.out).2.1); (case side3 => repeat (first | exact (Kd.R_reads' HO_5.out).2.2 | (with_reducible refine Kd.C_alloc ?_ _) | (with_reducible refine Kd.C_drewN ?_ _) | (with_reducible refine Kd.C_drew ?_))); (case side4 => exact (Kd.R_reads' HO_5.out).2.1); rintro e w' ⟨rfl, ⟨nd, rfl⟩⟩; refine ⟨_, rfl, ?_⟩))
              go_ret
              exact ⟨by first | rfl | (simp [errW_none, errW_some] <;> rfl) | (simp [*, errW_none, errW_some] <;> rfl), by repeat (first | (with_reducible first | exact HB.out | apply below_alloc | apply pw_below_drewN | apply below_drew1) | exact HB.out)⟩

/-- THE ONE PURE STATEMENT of lintellaw03_StripScans: yours. -/
def lintellaw03_StripScans.Pure : Prop := ∀ (a0 : ByteArray), a0.size ≤ 140737488351232 → ∃ k, lintellaw03_StripScans.f k a0 = some true
theorem lintellaw03_StripScans.walk (P : lintellaw03_StripScans.Pure) (a0 : ByteArray) (w : World) (w0 : a0.size ≤ 140737488351232) :
    Calls Try.prog 5 #[.string a0] w fun e w' => e = .returned (.bool true) ∧ Below w.heap.size w w' := by
  obtain ⟨k, h⟩ := P a0 w0
  refine (lintellaw03_StripScans.calls k a0 true w h).mono ?_
  rintro e w' ⟨rfl, hd⟩
  exact ⟨rfl, hd⟩

end Go.Proofs.Ytcpokaglofopbaa.PAll
