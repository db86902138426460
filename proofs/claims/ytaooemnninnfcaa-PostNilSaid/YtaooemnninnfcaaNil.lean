/- The walk of the law PostNil: for every letter and every number it returns true. -/
import Derived.Test.YtaooemnninnfcaaAwake
namespace Go.Proofs.Ytaooemnninnfcaa.Bag
set_option linter.unusedVariables false
set_option linter.unusedSimpArgs false
open Go.RowKit Go.Proofs.Ytaooemnninnfcaa.PAll Go.Proofs.YtaooemnninnfcaaW.PrintWords Go.Proofs.YtaooemnninnfcaaW.PrintLast Go.Proofs.YtaooemnninnfcaaW.PrintMore

theorem copy_none (i : Int) (w : World) : Calls Try.prog 11 #[.pointer none, .int .i64 i] w fun e w' => e = .returned (.tuple #[lv z28, .bool false]) ∧ Below w.heap.size w w' :=
  if h : i < 0 then copy_neg none i h w else copy_nil i (by omega) w
def zbox : Obj := .cells #[.int .i64 0, .int .i64 0, .string ⟨#[]⟩] 28
theorem nil_walk (x : S28) (i : Int) (W : World) : Calls Try.prog 6 #[lv x, .int .i64 i] W fun e w' => e = .returned (.bool true) ∧ Below W.heap.size W w' := by
  have HT := Lib.hid (fun w => take_nil i w)
  have HC := Lib.hid (fun w => copy_none i w)
  have HL := Lib.hid (fun w => lose_no none i w (take_nil i w))
  have HS := Lib.hid (fun w => send_nil x w)
  simp only [lv, z28] at HT HC HL HS
  unfold lv
  go_enter Try.func6, Try.ntmps6
  go_wp2_with fail
  refine (HS.out _).mono ?_
  rintro e w1 ⟨rfl, hb1⟩
  go_wp2_with fail
  refine (HT.out _).mono ?_
  rintro e w2 ⟨rfl, hb2⟩
  have hx := blk_new w2 (.cells #[.int .i64 0, .int .i64 0, .string ⟨#[]⟩] 28)
  have hb3 : Below W.heap.size W (w2.alloc (.cells #[.int .i64 0, .int .i64 0, .string ⟨#[]⟩] 28)) := by
    have a1 : Below W.heap.size W w1 := ((Below.refl _ _).alloc (Nat.le_refl _) _).trans (hb1.mono (by simp))
    have a2 := a1.trans (hb2.mono a1.size)
    exact a2.alloc a2.size _
  clear hb1 hb2
  go_wp2_with fail
  generalize w2.alloc (.cells #[.int .i64 0, .int .i64 0, .string ⟨#[]⟩] 28) = w3 at *
  generalize w2.heap.size = X at *
  refine (HC.out _).mono ?_
  rintro e w4 ⟨rfl, hb4⟩
  have hx5 := blk_alloc (blk_below hx hb4) (.cells #[.int .i64 0, .int .i64 0, .string ⟨#[]⟩] 28)
  have hy5 := blk_new w4 (.cells #[.int .i64 0, .int .i64 0, .string ⟨#[]⟩] 28)
  have hb5 : Below W.heap.size W (w4.alloc (.cells #[.int .i64 0, .int .i64 0, .string ⟨#[]⟩] 28)) := by
    have a1 := hb3.trans (hb4.mono hb3.size)
    exact a1.alloc a1.size _
  clear hb3 hb4 hx
  go_wp2_with fail
  generalize w4.alloc (.cells #[.int .i64 0, .int .i64 0, .string ⟨#[]⟩] 28) = w5 at *
  generalize w4.heap.size = Y at *
  refine (awake_calls _).mono ?_
  rintro e w6 ⟨rfl, hb6⟩
  obtain ⟨x0, x1, x2, _, _, _, _⟩ := box3 (blk_below hx5 hb6)
  obtain ⟨y0, y1, y2, _, _, _, _⟩ := box3 (blk_below hy5 hb6)
  have hb7 := hb5.trans (hb6.mono hb5.size)
  clear hx5 hy5 hb5 hb6
  go_wp2_with (first | (go_at_call 14; refine (len_nil _).mono ?_; rintro e w8 ⟨rfl, rfl⟩) | (go_at_call 12; refine (HL.out _).mono ?_; rintro e w9 ⟨rfl, hb9⟩))
  go_ret
  exact ⟨rfl, hb7.trans (hb9.mono hb7.size)⟩
end Go.Proofs.Ytaooemnninnfcaa.Bag
