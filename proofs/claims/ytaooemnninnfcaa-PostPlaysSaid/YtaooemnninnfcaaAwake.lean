/- The contract of the laws' 'awake' over post: it answers true. -/
import Derived.Test.YtaooemnninnfcaaTake
namespace Go.Proofs.Ytaooemnninnfcaa.Bag
set_option linter.unusedVariables false
set_option linter.unusedSimpArgs false
open Go.RowKit Go.Proofs.Ytaooemnninnfcaa.PAll Go.Proofs.YtaooemnninnfcaaW.PrintWords Go.Proofs.YtaooemnninnfcaaW.PrintLast Go.Proofs.YtaooemnninnfcaaW.PrintMore

/-- A bag behind a chain of calls: all below the base is as it was. -/
structure Now (w0 : World) (B g : Nat) (v : Value) (xs : List S28) (w : World) : Prop where
  bag : Bag w B g v xs
  size : B ≤ w.heap.size
  below : Below B w0 w
/-- What a call does to what lies about: it writes to the bag's two blocks alone; its row is the old one, or new. -/
def Moves (W : World) (g : Nat) (v v' : Value) (w' : World) : Prop := Fr W w' (fun k => k = g ∨ v.ownBlock = some k) ∧ ∀ k, v'.ownBlock = some k → v.ownBlock = some k ∨ W.heap.size ≤ k
theorem Now.left {w0 W w' : World} {B g : Nat} {v : Value} {xs ys : List S28} (h : Now w0 B g v xs W) (hl : Left W B g v ys w') : ∃ v', Now w0 B g v' ys w' ∧ Moves W g v v' w' := by
  obtain ⟨v', hb', hf, hk⟩ := hl
  have hbb : Below B W w' := hf.to_below (fun k hk => by
    rcases hk with rfl | hk
    · exact h.bag.1
    · exact (h.bag.2.2.lt k hk).1) h.size
  exact ⟨v', ⟨hb', Nat.le_trans h.size hbb.size, h.below.trans hbb⟩, hf, hk⟩
theorem Now.fr {w0 W w' : World} {B g : Nat} {v : Value} {xs : List S28} {S : Nat → Prop} (h : Now w0 B g v xs W) (f : Fr W w' S) (hS : ∀ k, S k → B ≤ k) (hg : ¬ S g) (hr : ∀ k, v.ownBlock = some k → ¬ S k) : Now w0 B g v xs w' :=
  ⟨h.bag.fr f hg hr, Nat.le_trans h.size f.size, h.below.trans (f.to_below hS h.size)⟩
theorem Now.next {w0 W w' : World} {B g : Nat} {v : Value} {xs : List S28} (h : Now w0 B g v xs W) (hb : Below W.heap.size W w') : Now w0 B g v xs w' :=
  h.fr (Fr.of_below hb (fun _ => False)) (fun _ h => h.elim) (fun h => h) (fun _ _ h => h)
theorem Now.row {w0 W : World} {B g : Nat} {v : Value} {xs : List S28} (h : Now w0 B g v xs W) : ∀ k, v.ownBlock = some k → k < W.heap.size := fun k hk => (h.bag.2.2.lt k hk).2
section
variable {w0 W : World} {B g : Nat} {v : Value} {xs : List S28}
theorem now_send (h : Now w0 B g v xs W) (x : S28) (hl : xs.length + 1 ≤ 4398046511104) :
    Calls Try.prog 9 #[.pointer (some ⟨g, 0, none⟩), lv x] W fun e w' => e = .returned (.tuple #[]) ∧ ∃ v', Now w0 B g v' (xs ++ [x]) w' ∧ Moves W g v v' w' := by
  refine (send_calls h.bag x hl h.size).mono ?_
  rintro e w' ⟨rfl, hL⟩
  exact ⟨rfl, h.left hL⟩
theorem now_take (h : Now w0 B g v xs W) (i : Nat) (hi : i < xs.length) (hl : xs.length ≤ 4398046511104) :
    Calls Try.prog 10 #[.pointer (some ⟨g, 0, none⟩), .int .i64 (i : Int)] W fun e w' => e = .returned (.tuple #[lv (xs[i]), .bool true]) ∧ ∃ v', Now w0 B g v' (without xs i) w' ∧ Moves W g v v' w' := by
  refine (take_calls h.bag i hi hl).mono ?_
  rintro e w' ⟨rfl, hL⟩
  exact ⟨rfl, h.left hL⟩
theorem now_take_out (h : Now w0 B g v xs W) (i : Int) (hi : i < 0 ∨ (xs.length : Int) ≤ i) :
    Calls Try.prog 10 #[.pointer (some ⟨g, 0, none⟩), .int .i64 i] W fun e w' => e = .returned (.tuple #[lv z28, .bool false]) ∧ Below W.heap.size W w' := take_out h.bag i hi
theorem now_copy (h : Now w0 B g v xs W) (i : Nat) (hi : i < xs.length) :
    Calls Try.prog 11 #[.pointer (some ⟨g, 0, none⟩), .int .i64 (i : Int)] W fun e w' => e = .returned (.tuple #[lv (xs[i]), .bool true]) ∧ Below W.heap.size W w' := copy_in h.bag i hi
theorem now_copy_out (h : Now w0 B g v xs W) (i : Int) (hi : i < 0 ∨ (xs.length : Int) ≤ i) :
    Calls Try.prog 11 #[.pointer (some ⟨g, 0, none⟩), .int .i64 i] W fun e w' => e = .returned (.tuple #[lv z28, .bool false]) ∧ Below W.heap.size W w' := by
  by_cases hn : i < 0
  · exact copy_neg _ i hn _
  · exact copy_out h.bag i (by omega) (by omega)
theorem now_lose (h : Now w0 B g v xs W) (i : Nat) (hi : i < xs.length) (hl : xs.length ≤ 4398046511104) :
    Calls Try.prog 12 #[.pointer (some ⟨g, 0, none⟩), .int .i64 (i : Int)] W fun e w' => e = .returned (.bool true) ∧ ∃ v', Now w0 B g v' (without xs i) w' ∧ Moves W g v v' w' := by
  refine (lose_calls h.bag i hi hl).mono ?_
  rintro e w' ⟨rfl, hL⟩
  exact ⟨rfl, h.left hL⟩
theorem now_lose_out (h : Now w0 B g v xs W) (i : Int) (hi : i < 0 ∨ (xs.length : Int) ≤ i) :
    Calls Try.prog 12 #[.pointer (some ⟨g, 0, none⟩), .int .i64 i] W fun e w' => e = .returned (.bool false) ∧ Below W.heap.size W w' := lose_no _ i _ (take_out h.bag i hi)
theorem now_len (h : Now w0 B g v xs W) : Calls Try.prog 14 #[.pointer (some ⟨g, 0, none⟩)] W fun e w' => e = .returned (.int .i64 xs.length) ∧ W = w' := len_calls h.bag
end
theorem new_now (w0 W : World) (B : Nat) (hB : B ≤ W.heap.size) (hb : Below B w0 W) : Now w0 B W.heap.size (.slice none 0 0) [] (W.alloc (.cells #[.slice none 0 0] 44)) :=
  ⟨new_bag W B hB, by simp; omega, hb.alloc hB _⟩

def la : S28 := ⟨0, 0, ⟨#[97]⟩⟩
def lb : S28 := ⟨0, 0, ⟨#[98]⟩⟩
def lc : S28 := ⟨0, 0, ⟨#[99]⟩⟩
theorem awake_calls (W : World) : Calls Try.prog 7 #[] W fun e w' => e = .returned (.bool true) ∧ Below W.heap.size W w' := by
  go_enter Try.func7, Try.ntmps7
  go_wp2_with (go_at_call 8; refine (new_calls _ W.heap.size (Nat.le_refl _)).mono ?_; rintro e w1 ⟨rfl, rfl⟩)
  have h1 := new_now W W W.heap.size (Nat.le_refl _) (Below.refl _ _)
  refine (now_send h1 la (by decide)).mono ?_
  rintro e w2 ⟨rfl, v2, h2, _⟩
  go_wp2_with fail
  refine (now_send h2 lb (by decide)).mono ?_
  rintro e w3 ⟨rfl, v3, h3, _⟩
  go_wp2_with fail
  refine (now_send h3 lc (by decide)).mono ?_
  rintro e w4 ⟨rfl, v4, h4, _⟩
  change Now W W.heap.size W.heap.size v4 [la, lb, lc] w4 at h4
  clear h1 h2 h3
  go_wp2_with fail
  have ht : Calls Try.prog 10 #[.pointer (some ⟨W.heap.size, 0, none⟩), .int .i64 1] w4 fun e w' => e = .returned (.tuple #[.agg #[.int .i64 0, .int .i64 0, .string ⟨#[98]⟩], .bool true]) ∧ ∃ v', Now W W.heap.size W.heap.size v' [la, lc] w' ∧ Moves w4 W.heap.size v4 v' w' := now_take h4 1 (by decide) (by decide)
  refine ht.mono ?_
  rintro e w5 ⟨rfl, v5, h5, _⟩
  clear ht
  have h6 := h5.next ((Below.refl _ _).alloc (Nat.le_refl _) (.cells #[.int .i64 0, .int .i64 0, .string ⟨#[98]⟩] 28))
  have hx := blk_new w5 (.cells #[.int .i64 0, .int .i64 0, .string ⟨#[98]⟩] 28)
  have hrow := h5.row
  have hgl := h5.bag.lt
  go_wp2_with fail
  generalize w5.alloc (.cells #[.int .i64 0, .int .i64 0, .string ⟨#[98]⟩] 28) = w6 at *
  generalize w5.heap.size = G at *
  clear h5 h4
  have ht : Calls Try.prog 10 #[.pointer (some ⟨W.heap.size, 0, none⟩), .int .i64 1] w6 fun e w' => e = .returned (.tuple #[.agg #[.int .i64 0, .int .i64 0, .string ⟨#[99]⟩], .bool true]) ∧ ∃ v', Now W W.heap.size W.heap.size v' [la] w' ∧ Moves w6 W.heap.size v5 v' w' := now_take h6 1 (by decide) (by decide)
  refine ht.mono ?_
  rintro e w7 ⟨rfl, v7, h7, hm⟩
  have hx7 : w7.heap[G]? = some (.cells #[.int .i64 0, .int .i64 0, .string ⟨#[98]⟩] 28) := hm.1.blk hx (by
    rintro (h | h)
    · omega
    · have := hrow _ h; omega)
  obtain ⟨b0, b1, b2, b3, b4, b5, b6⟩ := box3 hx7
  have H8 := Lib.hid (h7.next ((Below.refl _ _).alloc (Nat.le_refl _) (.cells #[.int .i64 0, .int .i64 0, .string ⟨#[99]⟩] 28)))
  clear ht hrow hm hx7 h7 h6 hx
  go_wp2_with (first | (go_at_call 14; refine (now_len H8.out).mono ?_; rintro e w8 ⟨rfl, rfl⟩) | (go_at_call 12; refine (now_lose_out H8.out 7 (.inr (by decide))).mono ?_; rintro e w9 ⟨rfl, hb9⟩))
  go_ret
  exact ⟨rfl, H8.out.below.trans (hb9.mono H8.out.size)⟩
end Go.Proofs.Ytaooemnninnfcaa.Bag
