/- The walk of the law ClocksFair: for all bounds, ticks and rounds it returns true. -/
import Derived.Test.YtkpigklcbigfdaaNear
namespace Go.Proofs.Ytkpigklcbigfdaa.Clk
set_option linter.unusedVariables false
set_option linter.unusedSimpArgs false
open Go.RowKit Go.Proofs.YtkpigklcbigfdaaW.PrintWords Go.Proofs.YtkpigklcbigfdaaW.PrintLast Go.Proofs.YtkpigklcbigfdaaW.PrintMore Go.Proofs.Ytkpigklcbigfdaa.Opened
attribute [local go_sem] max2_int min2_int max_two min_two max_three min_three max_four min_four
theorem fair_bad (n most R : Int) (A : Option Addr) (l : List (Int × Int)) (c : Nat) (W : World) (hb : n < 1 ∨ 5 < n ∨ most < 1 ∨ 1073741824 < most) :
    Calls Try.prog 5 #[.int .i64 n, .int .i64 most, .slice A l.length c, .int .i64 R] W fun e w' => e = .returned (.bool true) ∧ Below W.heap.size W w' := by
  go_enter Try.func5, Try.ntmps5
  go_wp2_with fail
  refine (new_bad n most W hb).mono ?_
  rintro e w1 ⟨rfl, rfl⟩
  have hB := Below.refl w1.heap.size w1
  go_wp2_with (go_at_call 8; refine (awake_calls _).mono ?_; rintro e w2 ⟨rfl, hb2⟩; have hB2 := hB.trans (hb2.mono hB.size); clear hB hb2; have hB := hB2; clear hB2)
  go_ret
  exact ⟨rfl, hB⟩
theorem fair_skip (n most R : Int) (A : Option Addr) (l : List (Int × Int)) (c : Nat) (W : World) (h0 : 1 ≤ n) (h1 : n ≤ 5) (m1 : 1 ≤ most) (m2 : most ≤ 1073741824) (hl : 400 < l.length ∨ R < 0 ∨ 200 < R) :
    Calls Try.prog 5 #[.int .i64 n, .int .i64 most, .slice A l.length c, .int .i64 R] W fun e w' => e = .returned (.bool true) ∧ Below W.heap.size W w' := by
  have hB := (Below.refl W.heap.size W).alloc (Nat.le_refl _) (.cells #[.int .i64 0, .int .i64 0, .int .i64 0, .int .i64 0, .int .i64 0, .int .i64 n, .int .i64 most] 38)
  have hN := Lib.hid (new_calls n most W h0 h1 m1 m2)
  have hcase : decide (400 < (l.length : Int)) = true ∨ (decide (400 < (l.length : Int)) = false ∧ decide (R < 0) = true) ∨ (decide (400 < (l.length : Int)) = false ∧ decide (R < 0) = false ∧ decide (200 < R) = true) := by
    simp only [decide_eq_true_eq, decide_eq_false_iff_not]
    omega
  clear hl
  rcases hcase with d1 | ⟨d1, d2⟩ | ⟨d1, d2, d3⟩
  all_goals
    go_enter Try.func5, Try.ntmps5
    go_wp2_with fail
    refine hN.out.mono ?_
    rintro e w1 ⟨rfl, rfl⟩
    generalize W.alloc (.cells #[.int .i64 0, .int .i64 0, .int .i64 0, .int .i64 0, .int .i64 0, .int .i64 n, .int .i64 most] 38) = w2 at *
    go_wp2_with (go_at_call 8; refine (awake_calls _).mono ?_; rintro e w2 ⟨rfl, hb2⟩; have hB2 := hB.trans (hb2.mono hB.size); clear hB hb2; have hB := hB2; clear hB2)
    go_ret
    exact ⟨rfl, hB⟩
/-- Where there is room, a clock goes on as it was told. -/
theorem amt_eq {xs : List Int} {most d : Int} (h : Good xs most) (j : Nat) (hj : j < xs.length) (hd : 1 ≤ d) (hr : ∀ x ∈ xs, xs[j] + d ≤ x + most) (he : xs[j] + d ≤ 1125899906842624) : amt xs most j d = d := by
  have h1 := hr _ h.least
  unfold amt
  rw [if_pos ⟨by omega, by omega, hd⟩, rd_nat xs j hj]
  have h2 : min d (least xs + most - xs[j]) = d := by omega
  rw [h2, if_neg (by omega)]
theorem ticked_eq {xs : List Int} {most d : Int} (j : Nat) (hj : j < xs.length) (ha : amt xs most j d = d) : ticked xs most j d = xs.set j (xs[j] + d) := by
  unfold ticked
  rw [if_pos ⟨by omega, by omega⟩, ha, rd_nat xs j hj, Int.toNat_natCast]
theorem nowOf_nat {xs : List Int} (j : Nat) (hj : j < xs.length) : nowOf xs j = xs[j] := by
  unfold nowOf
  rw [if_pos ⟨by omega, by omega⟩, rd_nat xs j hj]
/-- No tick adds more than it was told. -/
theorem ticked_bound {xs : List Int} {most i d u v : Int} (h : Good xs most) (hu : ∀ x ∈ xs, x ≤ u) (hd : d ≤ v) (hv : 0 ≤ v) : ∀ x ∈ ticked xs most i d, x ≤ u + v := by
  intro x hx
  have ha := amt_le h i d
  unfold ticked at hx
  split at hx
  · rename_i hc
    have hm := hu _ (rd_mem hc.1 hc.2)
    rcases (List.mem_or_eq_of_mem_set hx) with hx | rfl
    · have := hu x hx; omega
    · omega
  · have := hu x hx; omega
/-- The first i clocks stand at the top. -/
structure Rise (xs : List Int) (most top : Int) (m i : Nat) : Prop where
  len : xs.length = m
  at_ : ∀ j (hj : j < xs.length), j < i → xs[j] = top
  le : ∀ x ∈ xs, x ≤ top
  room : ∀ x ∈ xs, top ≤ x + most
theorem Rise.amt {xs : List Int} {most top : Int} {m i : Nat} (h : Rise xs most top m i) (hg : Good xs most) (hi : i < xs.length) (ht : top ≤ 1125899906842624) (hx : xs[i] < top) : amt xs most i (top - xs[i]) = top - xs[i] :=
  amt_eq hg i hi (by omega) (fun x hx => by have := h.room x hx; omega) (by omega)
theorem Rise.set {xs : List Int} {most top : Int} {m i : Nat} (h : Rise xs most top m i) (hg : Good xs most) (hi : i < xs.length) (ht : top ≤ 1125899906842624) (hx : xs[i] < top) : Rise (ticked xs most i (top - xs[i])) most top m (i + 1) := by
  rw [ticked_eq i hi (h.amt hg hi ht hx), show xs[i] + (top - xs[i]) = top by omega]
  refine ⟨by rw [List.length_set]; exact h.len, fun j hj hji => ?_, fun x hx => ?_, fun x hx => ?_⟩
  · rw [List.getElem_set]
    split
    · rfl
    · exact h.at_ j (by rw [List.length_set] at hj; exact hj) (by omega)
  · rcases (List.mem_or_eq_of_mem_set hx) with hx | rfl
    · exact h.le x hx
    · omega
  · rcases (List.mem_or_eq_of_mem_set hx) with hx | rfl
    · exact h.room x hx
    · have := hg.m1; omega
theorem Rise.next {xs : List Int} {most top : Int} {m i : Nat} (h : Rise xs most top m i) (hi : i < xs.length) (hx : ¬ xs[i] < top) : Rise xs most top m (i + 1) := by
  refine ⟨h.len, fun j hj hji => ?_, h.le, h.room⟩
  rcases Nat.lt_or_ge j i with h1 | h1
  · exact h.at_ j hj h1
  · obtain rfl : j = i := by omega
    have := h.le _ (List.getElem_mem hj)
    omega
theorem Rise.less {xs : List Int} {most top : Int} {m i : Nat} (h : Rise xs most top m (i + 1)) : Rise xs most top m i := ⟨h.len, fun j hj hji => h.at_ j hj (by omega), h.le, h.room⟩
/-- In a round: the first i clocks have ticked. -/
structure Turn (xs : List Int) (t : Int) (m i : Nat) : Prop where
  len : xs.length = m
  lo : ∀ j (hj : j < xs.length), j < i → xs[j] = t + 1
  hi : ∀ j (hj : j < xs.length), i ≤ j → xs[j] = t
theorem Turn.amt {xs : List Int} {most t : Int} {m i : Nat} (h : Turn xs t m i) (hg : Good xs most) (hi : i < xs.length) (ht : t + 1 ≤ 1125899906842624) : amt xs most i 1 = 1 :=
  amt_eq hg i hi (by omega) (fun x hx => by
    obtain ⟨j, hj, rfl⟩ := List.getElem_of_mem hx
    have := hg.m1
    rw [h.hi i hi (Nat.le_refl _)]
    rcases Nat.lt_or_ge j i with h1 | h1
    · rw [h.lo j hj h1]; omega
    · rw [h.hi j hj h1]; omega) (by rw [h.hi i hi (Nat.le_refl _)]; exact ht)
theorem Turn.tick {xs : List Int} {most t : Int} {m i : Nat} (h : Turn xs t m i) (hg : Good xs most) (hi : i < xs.length) (ht : t + 1 ≤ 1125899906842624) : Turn (ticked xs most i 1) t m (i + 1) := by
  rw [ticked_eq i hi (h.amt hg hi ht), h.hi i hi (Nat.le_refl _)]
  refine ⟨by rw [List.length_set]; exact h.len, fun j hj hji => ?_, fun j hj hji => ?_⟩
  · rw [List.getElem_set]
    split
    · rfl
    · exact h.lo j (by rw [List.length_set] at hj; exact hj) (by omega)
  · rw [List.getElem_set, if_neg (by omega)]
    exact h.hi j (by rw [List.length_set] at hj; exact hj) (by omega)
theorem Turn.over {xs : List Int} {t : Int} {m : Nat} (h : Turn xs t m m) : Turn xs (t + 1) m 0 :=
  ⟨h.len, fun j hj h0 => by omega, fun j hj _ => h.lo j hj (by have := h.len; omega)⟩
theorem Rise.turn {xs : List Int} {most top : Int} {m : Nat} (h : Rise xs most top m m) : Turn xs top m 0 :=
  ⟨h.len, fun j hj h0 => by omega, fun j hj _ => h.at_ j hj (by have := h.len; omega)⟩
/-- A tick of at most 2^20. -/
theorem tick_small {w0 w : World} {B g : Nat} {xs : List Int} {most u : Int} (h : At w0 B g xs most w) (hu : ∀ x ∈ xs, x ≤ u) (i d : Int) (hd : d ≤ 1048576) :
    Calls Try.prog 10 #[.pointer (some ⟨g, 0, none⟩), .int .i64 i, .int .i64 d] w fun e w' => ∃ (a : Int) (ys : List Int), e = .returned (.int .i64 a) ∧ ys.length = xs.length ∧ At w0 B g ys most w' ∧ ∀ y ∈ ys, y ≤ u + 1048576 := by
  refine (tick_calls h i d).mono ?_
  rintro e w' ⟨rfl, hA, _⟩
  exact ⟨_, _, rfl, ticked_length _ _ _ _, hA, ticked_bound h.good hu hd (by decide)⟩
set_option maxRecDepth 100000 in
set_option maxHeartbeats 4000000 in
theorem fair_walk (n most R : Int) (A : Option Addr) (l : List (Int × Int)) (c : Nat) (W : World) (h : Kd.C kTick W A l.length l) (hc : l.length ≤ c) (h0 : 1 ≤ n) (h1 : n ≤ 5) (m1 : 1 ≤ most) (m2 : most ≤ 1073741824) (hl : l.length ≤ 400) (r0 : 0 ≤ R) (r1 : R ≤ 200) :
    Calls Try.prog 5 #[.int .i64 n, .int .i64 most, .slice A l.length c, .int .i64 R] W fun e w' => e = .returned (.bool true) ∧ Below W.heap.size W w' := by
  have H := Lib.hid h
  clear h
  obtain ⟨m, rfl⟩ : ∃ m : Nat, n = (m : Int) := ⟨n.toNat, by omega⟩
  obtain ⟨q, rfl⟩ : ∃ q : Nat, R = (q : Int) := ⟨R.toNat, by omega⟩
  have d1 : decide (400 < (l.length : Int)) = false := decide_eq_false (by omega)
  have d2 : decide ((q : Int) < 0) = false := decide_eq_false (by omega)
  have d3 : decide (200 < (q : Int)) = false := decide_eq_false (by omega)
  go_enter Try.func5, Try.ntmps5
  go_wp2_with fail
  refine (new_calls _ most W h0 h1 m1 m2).mono ?_
  rintro e w1 ⟨rfl, rfl⟩
  have p0 := At.new (Nat.le_refl _) (Below.refl W.heap.size W) _ most h0 h1 m1 m2
  generalize W.alloc (.cells #[.int .i64 0, .int .i64 0, .int .i64 0, .int .i64 0, .int .i64 0, .int .i64 (m : Int), .int .i64 most] 38) = w2 at *
  have P0 := Lib.hid p0
  clear p0
  go_wp2_with (go_at_call 8; refine (awake_calls _).mono ?_; rintro e w3 ⟨rfl, hb3⟩)
  have p1 := P0.out.next hb3
  clear P0 hb3
  generalize hg : W.heap.size = g at *
  have HW := Lib.hid hg
  clear hg
  have hlen : l.length ≤ 9223372036854775807 := by omega
  have hmm : m ≤ 9223372036854775807 := by omega
  go_loopw [46] (fun v46 wr => ∃ (k : Nat) (xs : List Int), k ≤ l.length ∧ v46 = .int .i64 (k : Int) ∧ xs.length = m ∧ At W g g xs most wr ∧ ∀ x ∈ xs, x ≤ (k : Int) * 1048576) (fun v46 _ => l.length - (intOf v46).toNat)
  case atStart => exact ⟨0, _, Nat.zero_le _, rfl, by simp, p1, fun x hx => by have := (List.mem_replicate.1 hx).2; omega⟩
  case round =>
    clear p1
    obtain ⟨k, xs, hk, rfl, hxn, hA, hup⟩ := hrel
    by_cases hlt : k < l.length
    · obtain ⟨ad, rfl, c0, c1⟩ := tick_at H.out (HW.out ▸ hA.below) k hlt
      generalize l[k] = o at *
      obtain ⟨i, d⟩ := o
      simp only [] at c0 c1
      have hA1 := hA.next ((Below.refl _ _).alloc (Nat.le_refl _) (.cells #[.int .i64 i, .int .i64 d] 29))
      have HA1 := Lib.hid hA1
      have HU := Lib.hid hup
      clear hA hA1 hup
      go_wp2_with fail
      generalize wr.alloc (.cells #[.int .i64 i, .int .i64 d] 29) = w4 at *
      all_goals
        refine (tick_small HA1.out HU.out i _ ?hd).mono ?_
        case hd => omega
        rintro e w6 ⟨a, ys, rfl, hyn, hA2, hu2⟩
        rw [hxn] at hyn
        have HA2 := Lib.hid hA2
        have HU2 := Lib.hid hu2
        clear hA2 hu2
        go_wp2_with fail
        go_roundw
        case rel => exact ⟨k + 1, ys, by omega, by go_num, hyn, HA2.out, fun x hx => by have := HU2.out x hx; omega⟩
        case measure => simp [intOf]; omega
    · obtain rfl : k = l.length := by omega
      have hup2 : ∀ x ∈ xs, x ≤ 419430400 := fun x hx => by have := hup x hx; omega
      have HA := Lib.hid hA
      have HU := Lib.hid hup2
      clear hA hup hup2
      go_wp2_with fail
      obtain ⟨wf, hwf⟩ : ∃ wf, wf = wr := ⟨_, rfl⟩
      have HWF := Lib.hid hwf
      clear hwf
      go_loopw [13, 59] (fun v13 v59 wr => ∃ (i : Nat) (top : Int), i ≤ m ∧ v59 = .int .i64 (i : Int) ∧ v13 = .int .i64 top ∧ wr = wf ∧ 0 ≤ top ∧ (top = 0 ∨ top ∈ xs) ∧ ∀ j (hj : j < xs.length), j < i → xs[j] ≤ top) (fun _ v59 _ => m - (intOf v59).toNat)
      case atStart => exact ⟨0, 0, Nat.zero_le _, rfl, rfl, HWF.out.symm, Int.le_refl _, .inl rfl, fun j hj h => by omega⟩
      case round =>
        obtain ⟨i, top, hi, rfl, rfl, hwe, ht0, htm, hall⟩ := hrel
        obtain rfl := hwe.trans HWF.out
        clear hwe
        by_cases hlt2 : i < m
        · have hN := now_calls HA.out (i : Int)
          rw [nowOf_nat i (by omega)] at hN
          have HN := Lib.hid hN
          have hxi : xs[i] ∈ xs := List.getElem_mem _
          obtain ⟨x, hx⟩ : ∃ x, xs[i] = x := ⟨_, rfl⟩
          rw [hx] at hxi HN
          have HX := Lib.hid hx
          have HALL := Lib.hid hall
          clear hx hall hN
          go_wp2_with fail
          refine HN.out.mono ?_
          rintro e w8 ⟨rfl, rfl⟩
          go_wp2_with fail
          go_roundw
          case rel =>
            refine ⟨i + 1, if top < x then x else top, by omega, by go_num, rfl, HWF.out.symm, ?_, ?_, fun j hj hji => ?_⟩
            · split <;> omega
            · split
              · exact .inr hxi
              · exact htm
            · rcases Nat.lt_or_ge j i with h1 | h1
              · have := HALL.out j hj h1
                split <;> omega
              · obtain rfl : j = i := by omega
                rw [HX.out]
                split <;> omega
          case measure => simp [intOf]; omega
        · obtain rfl : m = i := by omega
          have hmem : top ∈ xs := by
            rcases htm with h | h
            · subst h
              have h1 := hall 0 (by omega) (by omega)
              have hm : xs[0]'(by omega) ∈ xs := List.getElem_mem _
              have h2 := HA.out.good.lo _ hm
              have h3 : xs[0]'(by omega) = 0 := by omega
              rw [← h3]
              exact hm
            · exact h
          have hle : ∀ x ∈ xs, x ≤ top := fun x hx => by
            obtain ⟨j, hj, rfl⟩ := List.getElem_of_mem hx
            exact hall j hj (by omega)
          have hR : Rise xs most top m 0 := ⟨hxn, fun j hj h => by omega, hle, fun x hx => by have := HA.out.good.near _ hmem x hx; omega⟩
          have htop : top ≤ 419430400 := HU.out _ hmem
          have HR := Lib.hid hR
          clear hall htm hmem hle hR HU
          go_wp2_with fail
          go_loopw [69] (fun v69 wr => ∃ (i : Nat) (xs : List Int), i ≤ m ∧ v69 = .int .i64 (i : Int) ∧ At W g g xs most wr ∧ Rise xs most top m i) (fun v69 _ => m - (intOf v69).toNat)
          case atStart => exact ⟨0, xs, Nat.zero_le _, rfl, HA.out, HR.out⟩
          case round =>
            clear HA HR HWF hxn
            obtain ⟨i, xs, hi, rfl, hA, hR⟩ := hrel
            by_cases hlt3 : i < m
            · have HA := Lib.hid hA
              have HR := Lib.hid hR
              clear hA hR
              go_wp2_with fail
              go_loopg [74] 1 (fun gk v74 wr => ∃ (xs : List Int), At W g g xs most wr ∧ Rise xs most top m i ∧ (gk = 0 → ¬ nowOf xs i < top))
              case atStart => exact ⟨xs, HA.out, HR.out, fun h => by omega⟩
              case round =>
                clear HA HR
                obtain ⟨xs, hA, hR, hz⟩ := hrel
                have hil : i < xs.length := by rw [hR.len]; exact hlt3
                have hN := now_calls hA (i : Int)
                rw [nowOf_nat i hil] at hN hz
                have hge := hA.good.lo _ (List.getElem_mem hil)
                have HN := Lib.hid hN
                by_cases hx : xs[i] < top
                · have hT := tick_calls hA (i : Int) (top - xs[i])
                  have hset := hR.set hA.good hil (by omega) hx
                  have hnow := nowOf_ticked hA.good (i : Int) (top - xs[i])
                  rw [hR.amt hA.good hil (by omega) hx] at hT hnow
                  rw [nowOf_nat i hil] at hnow
                  generalize ticked xs most (i : Int) (top - xs[i]) = ys at *
                  generalize xs[i] = x at *
                  have e1 : decide (x < top) = true := decide_eq_true hx
                  have e2 : decide (top - x < 1) = false := decide_eq_false (by omega)
                  have HT := Lib.hid hT
                  have HS := Lib.hid hset
                  have hnow2 := Lib.hid hnow
                  have hz2 := Lib.hid hz
                  clear hT hset hnow hN hA hR hz
                  go_wp2_with fail
                  refine HN.out.mono ?_
                  rintro e w8 ⟨rfl, rfl⟩
                  go_wp2_with fail
                  refine HN.out.mono ?_
                  rintro e w9 ⟨rfl, rfl⟩
                  go_wp2_with fail
                  refine HT.out.mono ?_
                  rintro e w9 ⟨rfl, hA9, _⟩
                  have HA9 := Lib.hid hA9
                  clear hA9
                  go_wp2_with fail
                  go_roundg 0
                  case rel => exact ⟨ys, HA9.out, HS.out.less, fun _ => by rw [hnow2.out]; omega⟩
                  case measure => 
                    rcases Nat.eq_zero_or_pos gk with h | h
                    · exact absurd hx (Int.not_lt.2 (hz2.out h))
                    · exact h
                · have hnx := hR.next hil hx
                  generalize xs[i] = x at *
                  have e1 : decide (x < top) = false := decide_eq_false hx
                  have HS := Lib.hid hnx
                  have HA := Lib.hid hA
                  clear hnx hN hA hR hz
                  go_wp2_with fail
                  refine HN.out.mono ?_
                  rintro e w8 ⟨rfl, rfl⟩
                  go_wp2_with fail
                  go_roundw
                  case rel => exact ⟨i + 1, xs, by omega, by go_num, HA.out, HS.out⟩
                  case measure => simp [intOf]; omega
            · obtain rfl : m = i := by omega
              have HA := Lib.hid hA
              have HT := Lib.hid hR.turn
              clear hA hR
              go_wp2_with fail
              go_loopw [88] (fun v88 wr => ∃ (r : Nat) (xs : List Int), r ≤ q ∧ v88 = .int .i64 (r : Int) ∧ At W g g xs most wr ∧ Turn xs (top + r) m 0) (fun v88 _ => q - (intOf v88).toNat)
              case atStart => exact ⟨0, xs, Nat.zero_le _, rfl, HA.out, by have := HT.out; simpa using this⟩
              case round =>
                clear HA HT
                obtain ⟨r, xs, hr, rfl, hA, hT⟩ := hrel
                by_cases hlt4 : r < q
                · have HA := Lib.hid hA
                  have HT := Lib.hid hT
                  clear hA hT
                  go_wp2_with fail
                  go_loopw [91] (fun v91 wr => ∃ (i : Nat) (xs : List Int), i ≤ m ∧ v91 = .int .i64 (i : Int) ∧ At W g g xs most wr ∧ Turn xs (top + r) m i) (fun v91 _ => m - (intOf v91).toNat)
                  case atStart => exact ⟨0, xs, Nat.zero_le _, rfl, HA.out, HT.out⟩
                  case round =>
                    clear HA HT
                    obtain ⟨i, xs, hi, rfl, hA, hT⟩ := hrel
                    by_cases hlt5 : i < m
                    · have hil : i < xs.length := by rw [hT.len]; exact hlt5
                      have hTk := tick_calls hA (i : Int) 1
                      have hset := hT.tick hA.good hil (by omega)
                      rw [hT.amt hA.good hil (by omega)] at hTk
                      have HK := Lib.hid hTk
                      have HS := Lib.hid hset
                      clear hTk hset hA hT
                      go_wp2_with fail
                      refine HK.out.mono ?_
                      rintro e w9 ⟨rfl, hA9, _⟩
                      have HA9 := Lib.hid hA9
                      clear hA9
                      go_wp2_with fail
                      go_roundw
                      case rel => exact ⟨i + 1, _, by omega, by go_num, HA9.out, HS.out⟩
                      case measure => simp [intOf]; omega
                    · obtain rfl : m = i := by omega
                      have HS := Lib.hid hT.over
                      have HA := Lib.hid hA
                      clear hA hT
                      go_wp2_with fail
                      go_roundw
                      case rel => exact ⟨r + 1, xs, by omega, by go_num, HA.out, by
                        rw [show top + ((r + 1 : Nat) : Int) = top + r + 1 by omega]
                        exact HS.out⟩
                      case measure => simp [intOf]; omega
                · obtain rfl : q = r := by omega
                  have HA := Lib.hid hA
                  have HT := Lib.hid hT
                  clear hA hT
                  go_wp2_with fail
                  obtain ⟨wf, hwf⟩ : ∃ wf, wf = wr := ⟨_, rfl⟩
                  have HWF := Lib.hid hwf
                  clear hwf
                  go_loopw [101] (fun v101 wr => ∃ (i : Nat), i ≤ m ∧ v101 = .int .i64 (i : Int) ∧ wr = wf) (fun v101 _ => m - (intOf v101).toNat)
                  case atStart => exact ⟨0, Nat.zero_le _, rfl, HWF.out.symm⟩
                  case round =>
                    obtain ⟨i, hi, rfl, hwe⟩ := hrel
                    obtain rfl := hwe.trans HWF.out
                    clear hwe
                    by_cases hlt6 : i < m
                    · have hil : i < xs.length := by rw [HT.out.len]; exact hlt6
                      have hN := now_calls HA.out (i : Int)
                      rw [nowOf_nat i hil, HT.out.hi i hil (Nat.zero_le _)] at hN
                      have HN := Lib.hid hN
                      clear hN
                      go_wp2_with fail
                      refine HN.out.mono ?_
                      rintro e w8 ⟨rfl, rfl⟩
                      go_wp2_with fail
                      go_roundw
                      case rel => exact ⟨i + 1, by omega, by go_num, HWF.out.symm⟩
                      case measure => simp [intOf]; omega
                    · obtain rfl : m = i := by omega
                      have hbl := HW.out ▸ HA.out.below
                      go_wp2_with fail
                      go_ret
                      exact ⟨rfl, hbl⟩
end Go.Proofs.Ytkpigklcbigfdaa.Clk
