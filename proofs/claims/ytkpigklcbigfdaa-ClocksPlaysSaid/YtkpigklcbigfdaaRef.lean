/- The contract of the reference's Tick, over a row of the law's own. -/
import Derived.Test.YtkpigklcbigfdaaNear
namespace Go.Proofs.Ytkpigklcbigfdaa.Clk
set_option linter.unusedVariables false
set_option linter.unusedSimpArgs false
open Go.RowKit Go.Proofs.YtkpigklcbigfdaaW.PrintWords Go.Proofs.YtkpigklcbigfdaaW.PrintLast Go.Proofs.YtkpigklcbigfdaaW.PrintMore Go.Proofs.Ytkpigklcbigfdaa.Opened
attribute [local go_sem] max2_int min2_int max_two min_two max_three min_three max_four min_four
/-- A row of integers at block r. -/
structure Row (r : Nat) (xs : List Int) (w : World) : Prop where
  blk : ∃ cur, w.heap[r]? = some (.cells cur 3 (0, 0)) ∧ ∀ j (hj : j < xs.length), cur[j]? = some (.int .i64 xs[j])
theorem Row.cell {r : Nat} {xs : List Int} {w : World} (h : Row r xs w) (j : Nat) (hj : j < xs.length) : w.cell? ⟨r, j, none⟩ = some (.int .i64 xs[j]) := by
  obtain ⟨cur, hb, hc⟩ := h.blk
  exact (blk_cell hb j).trans (hc j hj)
theorem Row.free {r : Nat} {xs : List Int} {w : World} (h : Row r xs w) (j : Nat) : w.frozen? ⟨r, j, none⟩ = false := by
  obtain ⟨cur, hb, hc⟩ := h.blk
  exact blk_frozen hb j
theorem Row.lt {r : Nat} {xs : List Int} {w : World} (h : Row r xs w) : r < w.heap.size := by
  obtain ⟨cur, hb, hc⟩ := h.blk
  exact blk_lt hb
theorem Row.fr {r : Nat} {xs : List Int} {w w' : World} {S : Nat → Prop} (h : Row r xs w) (f : Fr w w' S) (hS : ¬ S r) : Row r xs w' := by
  obtain ⟨cur, hb, hc⟩ := h.blk
  exact ⟨cur, f.blk hb hS, hc⟩
theorem Row.next {r : Nat} {xs : List Int} {w w' : World} (h : Row r xs w) (hb : Below w.heap.size w w') : Row r xs w' := h.fr (Fr.of_below hb (fun _ => False)) (fun h => h)
theorem Row.put {r : Nat} {xs : List Int} {w : World} (h : Row r xs w) (j : Nat) (hj : j < xs.length) (v : Int) : Row r (xs.set j v) (w.setCell ⟨r, j, none⟩ (.int .i64 v)) := by
  obtain ⟨cur, hb, hc⟩ := h.blk
  refine ⟨_, blk_put hb j _ rfl, fun k hk => ?_⟩
  rw [List.length_set] at hk
  have h1 := hc k hk
  have hlt : k < cur.size := (Array.getElem?_eq_some_iff.1 h1).1
  rw [Array.getElem?_setIfInBounds, List.getElem_set]
  split
  · rename_i he
    subst he
    rw [if_pos hlt]
  · exact h1
theorem row_new {B : Nat} {ok : Nat → Prop} {v : Value} {n : Nat} {w : World} (h : Kd.R (Kd.int .i64) 3 w B ok v (List.replicate n 0)) (hn : 0 < n) : ∃ r cap, v = .slice (some ⟨r, 0, none⟩) n cap ∧ B ≤ r ∧ n ≤ cap ∧ Row r (List.replicate n 0) w := by
  obtain ⟨inner, ho⟩ := Kd.R_own h
  rw [List.length_replicate] at ho
  obtain ⟨_, ⟨rfl, h0⟩ | ⟨g, cap, cur, rfl, hB, hb, hc1, hc2, hsz, ht⟩⟩ := ho
  · omega
  · refine ⟨g, cap, rfl, hB, hc1, cur, hb, fun j hj => ?_⟩
    obtain ⟨A, c2, he, hle, hC⟩ := Kd.R_reads h
    injection he with he _ _
    subst he
    rw [List.length_replicate] at hj
    obtain ⟨ad, e, h1⟩ := Kd.at_int hC (j : Int) (by omega) (by simpa using hj)
    injection e with e
    subst e
    rw [Int.toNat_natCast] at h1
    have h2 : w.cell? ((⟨g, 0, none⟩ : Addr).add j) = cur[j]? := by
      have h3 := blk_cell hb j
      have h4 : (⟨g, 0, none⟩ : Addr).add j = ⟨g, j, none⟩ := by
        simp [Addr.add]
        intro h0
        exact h0.symm
      rw [h4]
      exact h3
    rw [h2, rd_nat _ j (by simpa using hj)] at h1
    exact h1
section
variable {w : World} {r c : Nat} {xs : List Int} {most : Int}
theorem ref_no (A : Option Addr) (i d : Int) (hi : i < 0 ∨ (xs.length : Int) ≤ i ∨ d < 1) : Calls Try.prog 9 #[.slice A xs.length c, .int .i64 most, .int .i64 i, .int .i64 d] w fun e w' => e = .returned (.int .i64 0) ∧ w' = w := by
  by_cases h0 : i < 0
  · have d0 : decide (i < 0) = true := decide_eq_true h0
    go_enter Try.func9, Try.ntmps9
    go_wp2_with fail
    go_ret
    exact ⟨rfl, rfl⟩
  · have d0 : decide (i < 0) = false := decide_eq_false (by omega)
    by_cases h1 : (xs.length : Int) ≤ i
    · have d1 : decide ((xs.length : Int) ≤ i) = true := decide_eq_true h1
      go_enter Try.func9, Try.ntmps9
      go_wp2_with fail
      go_ret
      exact ⟨rfl, rfl⟩
    · have d1 : decide ((xs.length : Int) ≤ i) = false := decide_eq_false (by omega)
      have d2 : decide (d < 1) = true := decide_eq_true (by omega)
      go_enter Try.func9, Try.ntmps9
      go_wp2_with fail
      go_ret
      exact ⟨rfl, rfl⟩
theorem ref_in (h : ∀ j (hj : j < xs.length), w.cell? ⟨r, j, none⟩ = some (.int .i64 xs[j])) (hg : Good xs most) (hc : xs.length ≤ c) (j : Nat) (hj : j < xs.length) (d : Int) (hd : 1 ≤ d) :
    Calls Try.prog 9 #[.slice (some ⟨r, 0, none⟩) xs.length c, .int .i64 most, .int .i64 (j : Int), .int .i64 d] w fun e w' => e = .returned (.int .i64 (amt xs most j d)) ∧ w' = w := by
  have c0 := h j hj
  have hle := hg.le
  have hpos := hg.pos
  have d0 : decide ((xs.length : Int) ≤ (j : Int)) = false := decide_eq_false (by omega)
  have d00 : decide (xs.length ≤ j) = false := decide_eq_false (by omega)
  have d1 : decide ((j : Int) < 0) = false := decide_eq_false (by omega)
  have d2 : decide (d < 1) = false := decide_eq_false (by omega)
  have d3 : decide (j < xs.length) = true := decide_eq_true hj
  have H := Lib.hid h
  have hrd := rd_nat xs j hj
  have hl := hg.least
  have hxm : xs[j] ∈ xs := List.getElem_mem _
  have hA : amt xs most (j : Int) d = if 1125899906842624 < xs[j] + min d (least xs + most - xs[j]) then 0 else min d (least xs + most - xs[j]) := by
    unfold amt
    rw [if_pos ⟨by omega, by omega, hd⟩, hrd]
  have l1 := hg.lo _ hl
  have l2 := hg.hi _ hl
  have x1 := hg.lo _ hxm
  have x2 := hg.hi _ hxm
  have m1 := hg.m1
  have m2 := hg.m2
  have nr := hg.near _ hxm _ hl
  have HLm := Lib.hid (fun m hm hall => least_eq (xs := xs) (m := m) hm hall)
  have hrng := Lib.hid (fun (x : Int) hx => (⟨hg.lo x hx, hg.hi x hx⟩ : (0 : Int) ≤ x ∧ x ≤ 1125899906842624))
  obtain ⟨x, hx⟩ : ∃ x, xs[j] = x := ⟨_, rfl⟩
  rw [hx] at c0 hA x1 x2 nr hxm
  have HA := Lib.hid hA
  clear h hx hl hrd hg hA
  have e3 : (j : Int) < (xs.length : Int) := by omega
  have e4 : (0 : Int) ≤ (j : Int) := by omega
  go_enter Try.func9, Try.ntmps9
  go_wp2_with fail
  go_loopw [9, 10] (fun v9 v10 wr => ∃ (k : Nat) (m : Int), k ≤ xs.length ∧ v10 = .int .i64 (k : Int) ∧ v9 = .int .i64 m ∧ wr = w ∧ m ∈ xs ∧ ∀ j (hj : j < xs.length), j < k → m ≤ xs[j]) (fun _ v10 _ => xs.length - (intOf v10).toNat)
  case atStart => exact ⟨0, x, Nat.zero_le _, rfl, rfl, rfl, hxm, fun j hj hj1 => by omega⟩
  case round =>
    obtain ⟨k, m, hk, rfl, rfl, hwe, hm, hall⟩ := hrel
    subst hwe
    by_cases hlt : k < xs.length
    · have ck := H.out k hlt
      have hkm : xs[k] ∈ xs := List.getElem_mem _
      have HA2 := Lib.hid hall
      obtain ⟨y, hy⟩ : ∃ y, xs[k] = y := ⟨_, rfl⟩
      rw [hy] at ck hkm
      have HY := Lib.hid hy
      have d5 : decide (k < xs.length) = true := decide_eq_true hlt
      have hk0 : (0 : Int) ≤ (k : Int) := by omega
      clear hy hall
      by_cases hym : y < m
      · have k0 : decide (y < m) = true := decide_eq_true hym
        go_wp2_with fail
        go_roundw
        case rel =>
          refine ⟨k + 1, y, by omega, by go_num, rfl, by trivial, hkm, fun j hj hjk => ?_⟩
          rcases Nat.lt_or_ge j k with h | h
          · exact Int.le_trans (Int.le_of_lt hym) (HA2.out j hj h)
          · obtain rfl : j = k := by omega
            rw [HY.out]
            exact Int.le_refl _
        case measure => simp [intOf]; omega
      · have k0 : decide (y < m) = false := decide_eq_false hym
        go_wp2_with fail
        go_roundw
        case rel =>
          refine ⟨k + 1, m, by omega, by go_num, rfl, by trivial, hm, fun j hj hjk => ?_⟩
          rcases Nat.lt_or_ge j k with h | h
          · exact HA2.out j hj h
          · obtain rfl : j = k := by omega
            rw [HY.out]
            omega
        case measure => simp [intOf]; omega
    · obtain rfl : k = xs.length := by omega
      have hle2 : m = least xs := HLm.out m hm (fun x hx => by
        obtain ⟨j, hj, rfl⟩ := List.getElem_of_mem hx
        exact hall j hj hj)
      have hAA := HA.out
      rw [← hle2] at hAA l1 l2 nr
      have hr0 : 0 ≤ most - (x - m) := by omega
      by_cases hroom : most - (x - m) < d
      · have k0 : decide (most - (x - m) < d) = true := decide_eq_true hroom
        have hmin : min d (m + most - x) = most - (x - m) := by omega
        rw [hmin] at hAA
        by_cases hbig : 1125899906842624 - x < most - (x - m)
        · have k1 : decide (1125899906842624 - x < most - (x - m)) = true := decide_eq_true hbig
          rw [if_pos (by omega)] at hAA
          have HAA := Lib.hid hAA
          clear hall hAA hle2
          go_wp2_with fail
          go_ret
          rw [HAA.out]
          exact ⟨rfl, rfl⟩
        · have k1 : decide (1125899906842624 - x < most - (x - m)) = false := decide_eq_false hbig
          rw [if_neg (by omega)] at hAA
          have HAA := Lib.hid hAA
          clear hall hAA hle2
          go_wp2_with fail
          go_ret
          rw [HAA.out]
          exact ⟨rfl, rfl⟩
      · have k0 : decide (most - (x - m) < d) = false := decide_eq_false hroom
        have hmin : min d (m + most - x) = d := by omega
        rw [hmin] at hAA
        by_cases hbig : 1125899906842624 - x < d
        · have k1 : decide (1125899906842624 - x < d) = true := decide_eq_true hbig
          rw [if_pos (by omega)] at hAA
          have HAA := Lib.hid hAA
          clear hall hAA hle2
          go_wp2_with fail
          go_ret
          rw [HAA.out]
          exact ⟨rfl, rfl⟩
        · have k1 : decide (1125899906842624 - x < d) = false := decide_eq_false hbig
          rw [if_neg (by omega)] at hAA
          have HAA := Lib.hid hAA
          clear hall hAA hle2
          go_wp2_with fail
          go_ret
          rw [HAA.out]
          exact ⟨rfl, rfl⟩
theorem ref_calls (h : Row r xs w) (hg : Good xs most) (hc : xs.length ≤ c) (i d : Int) :
    Calls Try.prog 9 #[.slice (some ⟨r, 0, none⟩) xs.length c, .int .i64 most, .int .i64 i, .int .i64 d] w fun e w' => e = .returned (.int .i64 (amt xs most i d)) ∧ w' = w := by
  by_cases hi : i < 0 ∨ (xs.length : Int) ≤ i ∨ d < 1
  · rw [amt_no hi]
    exact ref_no _ i d hi
  · obtain ⟨j, rfl⟩ : ∃ j : Nat, i = (j : Int) := ⟨i.toNat, by omega⟩
    exact ref_in (fun j hj => h.cell j hj) hg hc j (by omega) d (by omega)
end
end Go.Proofs.Ytkpigklcbigfdaa.Clk
