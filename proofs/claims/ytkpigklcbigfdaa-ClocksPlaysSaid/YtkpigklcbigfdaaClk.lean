/- Clocks in memory, and the contracts of the clocks' functions. -/
import Derived.Test.YtkpigklcbigfdaaPClocksPlaysx1
import Derived.ChangeAlike
import Derived.IntWalk
import Derived.Lib.Hide
import Derived.Deep.RegionLaw
import Derived.Deep.RegionWith
import Derived.Outline
namespace Go.Proofs.Ytkpigklcbigfdaa.Clk
set_option linter.unusedVariables false
set_option linter.unusedSimpArgs false
open Go.RowKit Go.Proofs.YtkpigklcbigfdaaW.PrintWords Go.Proofs.YtkpigklcbigfdaaW.PrintLast Go.Proofs.YtkpigklcbigfdaaW.PrintMore
attribute [local go_sem] max2_int min2_int max_two min_two max_three min_three max_four min_four

/-! ### What a call leaves alone -/
/-- W' is W but for new blocks and what was written into the blocks of S. -/
structure Fr (W W' : World) (S : Nat → Prop) : Prop where
  os : W'.os = W.os
  tape : W'.tape = W.tape
  output : W'.output = W.output
  size : W.heap.size ≤ W'.heap.size
  block : ∀ i, i < W.heap.size → ¬ S i → W'.heap[i]? = W.heap[i]?
section
variable {W W' W2 : World} {S S2 : Nat → Prop}
theorem Fr.refl (W : World) (S : Nat → Prop) : Fr W W S := ⟨rfl, rfl, rfl, Nat.le_refl _, fun _ _ _ => rfl⟩
theorem Fr.trans (h : Fr W W' S) (k : Fr W' W2 S2) (hs : ∀ i, S2 i → S i ∨ W.heap.size ≤ i) : Fr W W2 S :=
  ⟨k.os.trans h.os, k.tape.trans h.tape, k.output.trans h.output, Nat.le_trans h.size k.size, fun i hi hn =>
    (k.block i (Nat.lt_of_lt_of_le hi h.size) (fun h2 => (hs i h2).elim hn (fun h3 => by omega))).trans (h.block i hi hn)⟩
theorem Fr.of_below (h : Below W.heap.size W W') (S : Nat → Prop) : Fr W W' S := ⟨h.os, h.tape, h.output, h.size, fun i hi _ => h.block i hi⟩
theorem Fr.drew (h : Fr W W' S) : Fr W W'.drew S := ⟨h.os, h.tape, h.output, h.size, h.block⟩
theorem Fr.drewN (h : Fr W W' S) (n : Nat) : Fr W (W'.drewN n) S := h.trans (Fr.of_below (pw_below_drewN (Below.refl _ _) n) (fun _ => False)) (fun _ h => h.elim)
theorem Fr.setCell (h : Fr W W' S) {p : Addr} (hp : S p.block ∨ W.heap.size ≤ p.block) (u : Value) : Fr W (W'.setCell p u) S :=
  h.trans (S2 := fun k => k = p.block) ⟨rfl, rfl, rfl, by simp [World.setCell], fun i _ hn => Below.heap_setCell W' p u i hn⟩ (fun k hk => by rw [hk]; exact hp)
theorem Fr.to_below {B : Nat} (h : Fr W W' S) (hS : ∀ k, S k → B ≤ k) (hB : B ≤ W.heap.size) : Below B W W' :=
  ⟨h.os, h.tape, h.output, h.size, fun i hi => h.block i (by omega) (fun hs => by have := hS i hs; omega)⟩
theorem Fr.blk {g : Nat} {o : Obj} (h : Fr W W' S) (hb : W.heap[g]? = some o) (hn : ¬ S g) : W'.heap[g]? = some o := (h.block g (blk_lt hb) hn).trans hb
theorem Fr.own {base e size n : Nat} {v : Value} {xs : List Value} (h : Fr W W' S) (ho : W.ownsRow base e size v n xs) (hn : ∀ k, v.ownBlock = some k → ¬ S k) : W'.ownsRow base e size v n xs :=
  own_move ho (fun k hk => h.block k (ho.lt k hk).2 (hn k hk))
end

/-! ### The least of some numbers -/
def least : List Int → Int
  | [] => 0
  | [x] => x
  | x :: y :: xs => min x (least (y :: xs))
theorem least_mem : ∀ xs : List Int, xs ≠ [] → least xs ∈ xs
  | [], h => absurd rfl h
  | [x], _ => by simp [least]
  | x :: y :: xs, _ => by
    have := least_mem (y :: xs) (by simp)
    unfold least
    rcases Int.le_total x (least (y :: xs)) with h | h
    · rw [Int.min_eq_left h]; exact List.mem_cons_self
    · rw [Int.min_eq_right h]; exact List.mem_cons_of_mem _ this
theorem least_le : ∀ xs : List Int, ∀ x ∈ xs, least xs ≤ x
  | [], _, h => by simp at h
  | [x], y, h => by simp at h; subst h; exact Int.le_refl _
  | x :: y :: xs, z, h => by
    unfold least
    rcases List.mem_cons.1 h with rfl | h
    · exact Int.min_le_left _ _
    · exact Int.le_trans (Int.min_le_right _ _) (least_le (y :: xs) z h)
theorem least_eq {xs : List Int} {m : Int} (hm : m ∈ xs) (hl : ∀ x ∈ xs, m ≤ x) : m = least xs :=
  Int.le_antisymm (hl _ (least_mem xs (List.ne_nil_of_mem hm))) (least_le xs m hm)
/-- By how much clock j goes on that is told d, of these, at this bound. -/
def amt (xs : List Int) (most : Int) (i d : Int) : Int :=
  if 0 ≤ i ∧ i < xs.length ∧ 1 ≤ d then (if 1125899906842624 < rd xs i + min d (least xs + most - rd xs i) then 0 else min d (least xs + most - rd xs i)) else 0
def ticked (xs : List Int) (most : Int) (i d : Int) : List Int := if 0 ≤ i ∧ i < xs.length then xs.set i.toNat (rd xs i + amt xs most i d) else xs
/-- What clocks keep to. -/
structure Good (xs : List Int) (most : Int) : Prop where
  pos : 0 < xs.length
  le : xs.length ≤ 5
  m1 : 1 ≤ most
  m2 : most ≤ 1073741824
  lo : ∀ x ∈ xs, 0 ≤ x
  hi : ∀ x ∈ xs, x ≤ 1125899906842624
  near : ∀ x ∈ xs, ∀ y ∈ xs, x - y ≤ most
theorem rd_nat (xs : List Int) (j : Nat) (hj : j < xs.length) : rd xs (j : Int) = xs[j] := by
  unfold rd
  rw [Int.toNat_natCast, List.getD_eq_getElem?_getD, List.getElem?_eq_getElem hj]
  rfl
theorem rd_mem {xs : List Int} {i : Int} (h0 : 0 ≤ i) (h1 : i < xs.length) : rd xs i ∈ xs := by
  obtain ⟨j, rfl⟩ : ∃ j : Nat, i = (j : Int) := ⟨i.toNat, by omega⟩
  rw [rd_nat xs j (by omega)]
  exact List.getElem_mem _
theorem Good.least {xs : List Int} {most : Int} (h : Good xs most) : Clk.least xs ∈ xs := least_mem xs (by intro he; have := h.pos; rw [he] at this; simp at this)
/-- The amount: none, or one that stays within the bound. -/
theorem amt_range {xs : List Int} {most : Int} (h : Good xs most) (i d : Int) : 0 ≤ amt xs most i d ∧ (amt xs most i d = 0 ∨ (0 ≤ i ∧ i < xs.length ∧ 1 ≤ d ∧ amt xs most i d ≤ d ∧ rd xs i + amt xs most i d ≤ least xs + most ∧ rd xs i + amt xs most i d ≤ 1125899906842624)) := by
  unfold amt
  split
  · rename_i hc
    have h1 := h.near _ (rd_mem hc.1 hc.2.1) _ h.least
    split
    · exact ⟨Int.le_refl _, .inl rfl⟩
    · rename_i hh
      have hmin : min d (least xs + most - rd xs i) ≤ d ∧ min d (least xs + most - rd xs i) ≤ least xs + most - rd xs i ∧ (min d (least xs + most - rd xs i) = d ∨ min d (least xs + most - rd xs i) = least xs + most - rd xs i) := by omega
      generalize min d (least xs + most - rd xs i) = a at *
      generalize rd xs i = r at *
      generalize least xs = m at *
      exact ⟨by omega, .inr ⟨hc.1, hc.2.1, hc.2.2, by omega, by omega, by omega⟩⟩
  · exact ⟨Int.le_refl _, .inl rfl⟩
theorem ticked_length (xs : List Int) (most i d : Int) : (ticked xs most i d).length = xs.length := by
  unfold ticked
  split <;> simp
theorem Good.ticked {xs : List Int} {most : Int} (h : Good xs most) (i d : Int) : Good (ticked xs most i d) most := by
  have hl := ticked_length xs most i d
  unfold Clk.ticked at *
  split
  · rename_i hc
    rw [if_pos hc] at hl
    have hr := amt_range h i d
    have hm := rd_mem hc.1 hc.2
    generalize amt xs most i d = a at *
    have hlm := h.least
    have hn : ∀ y ∈ xs.set i.toNat (rd xs i + a), y = rd xs i + a ∨ y ∈ xs := fun y hy => (List.mem_or_eq_of_mem_set hy).symm
    have g1 := h.lo _ hm
    have g2 := h.hi _ hm
    have g3 := fun y hy => h.near _ hm y hy
    have g4 := fun y hy => h.near y hy _ hm
    have g5 := least_le xs
    have m1 := h.m1
    generalize rd xs i = r at *
    refine ⟨by rw [hl]; exact h.pos, by rw [hl]; exact h.le, h.m1, h.m2, fun x hx => ?_, fun x hx => ?_, fun x hx y hy => ?_⟩
    · rcases hn x hx with rfl | hx
      · omega
      · exact h.lo x hx
    · rcases hn x hx with rfl | hx
      · omega
      · exact h.hi x hx
    · rcases hn x hx with rfl | hx <;> rcases hn y hy with rfl | hy
      · omega
      · have a1 := g3 y hy
        have a2 := g5 y hy
        omega
      · have a1 := g4 x hx
        omega
      · exact h.near x hx y hy
  · exact h

/-! ### Clocks in memory -/
def clk (xs : List Int) (most : Int) : Array Value := (xs.map (fun x => Value.int .i64 x) ++ (List.replicate (5 - xs.length) (Value.int .i64 0) ++ [Value.int .i64 xs.length, Value.int .i64 most])).toArray
theorem clk_at (xs : List Int) (most : Int) (i : Nat) (hi : i < xs.length) : (clk xs most)[i]? = some (.int .i64 xs[i]) := by
  unfold clk
  rw [List.getElem?_toArray, List.getElem?_append_left (by simpa using hi)]
  simp [hi]
theorem clk_n (xs : List Int) (most : Int) (h : xs.length ≤ 5) : (clk xs most)[5]? = some (.int .i64 xs.length) := by
  unfold clk
  rw [List.getElem?_toArray, List.getElem?_append_right (by simpa using h), List.length_map, List.getElem?_append_right (by simp), List.length_replicate, show 5 - xs.length - (5 - xs.length) = 0 by omega]
  rfl
theorem clk_most (xs : List Int) (most : Int) (h : xs.length ≤ 5) : (clk xs most)[6]? = some (.int .i64 most) := by
  unfold clk
  rw [List.getElem?_toArray, List.getElem?_append_right (by simp; omega), List.length_map, List.getElem?_append_right (by simp; omega), List.length_replicate, show 6 - xs.length - (5 - xs.length) = 1 by omega]
  rfl
theorem clk_set (xs : List Int) (most : Int) (i : Nat) (hi : i < xs.length) (v : Int) : (clk xs most).setIfInBounds i (.int .i64 v) = clk (xs.set i v) most := by
  unfold clk
  rw [List.setIfInBounds_toArray, List.set_append_left _ _ (by simpa using hi), List.length_set, List.map_set]
/-- Clocks at block g, behind a chain of calls. -/
structure At (w0 : World) (B g : Nat) (xs : List Int) (most : Int) (w : World) : Prop where
  base : B ≤ g
  size : B ≤ w.heap.size
  below : Below B w0 w
  blk : w.heap[g]? = some (.cells (clk xs most) 38 (0, 0))
  good : Good xs most
section
variable {w0 w w' : World} {B g : Nat} {xs : List Int} {most : Int}
theorem At.fr {S : Nat → Prop} (h : At w0 B g xs most w) (f : Fr w w' S) (hS : ∀ k, S k → B ≤ k) (hg : ¬ S g) : At w0 B g xs most w' :=
  ⟨h.base, Nat.le_trans h.size f.size, h.below.trans (f.to_below hS h.size), f.blk h.blk hg, h.good⟩
theorem At.next (h : At w0 B g xs most w) (hb : Below w.heap.size w w') : At w0 B g xs most w' := h.fr (Fr.of_below hb (fun _ => False)) (fun _ h => h.elim) (fun h => h)
theorem At.lt (h : At w0 B g xs most w) : g < w.heap.size := blk_lt h.blk
theorem At.cell (h : At w0 B g xs most w) (j : Nat) (hj : j < xs.length) : w.cell? ⟨g, j, none⟩ = some (.int .i64 xs[j]) := (blk_cell h.blk j).trans (clk_at xs most j hj)
theorem At.n (h : At w0 B g xs most w) : w.cell? ⟨g, 5, none⟩ = some (.int .i64 xs.length) := (blk_cell h.blk 5).trans (clk_n xs most h.good.le)
theorem At.bound (h : At w0 B g xs most w) : w.cell? ⟨g, 6, none⟩ = some (.int .i64 most) := (blk_cell h.blk 6).trans (clk_most xs most h.good.le)
theorem At.free (h : At w0 B g xs most w) (j : Nat) : w.frozen? ⟨g, j, none⟩ = false := blk_frozen h.blk j
theorem At.put {v : Int} {j : Nat} (h : At w0 B g xs most w) (hj : j < xs.length) (hg : Good (xs.set j v) most) : At w0 B g (xs.set j v) most (w.setCell ⟨g, j, none⟩ (.int .i64 v)) := by
  have f : Fr w (w.setCell ⟨g, j, none⟩ (.int .i64 v)) (fun k => k = g) := (Fr.refl w (fun k => k = g)).setCell (p := ⟨g, j, none⟩) (.inl rfl) _
  exact ⟨h.base, Nat.le_trans h.size f.size, h.below.trans (f.to_below (fun k hk => by have := h.base; omega) h.size), blk_put h.blk j _ (clk_set xs most j hj v), hg⟩
end
theorem wrap_in {n : Int} (h0 : -9223372036854775808 ≤ n) (h1 : n ≤ 9223372036854775807) : wrap64 n = n := by unfold wrap64; omega

/-! ### Min, Now, Tick, New -/
theorem min_calls {w : World} {g c : Nat} {xs : List Int} (h : ∀ j (hj : j < xs.length), w.cell? ⟨g, j, none⟩ = some (.int .i64 xs[j])) (hp : 0 < xs.length) (hl : xs.length ≤ 5) (hc : xs.length ≤ c) :
    Calls Try.prog 12 #[.slice (some ⟨g, 0, none⟩) xs.length c] w fun e w' => e = .returned (.int .i64 (least xs)) ∧ w' = w := by
  have H := Lib.hid h
  have c0 := h 0 hp
  have d0 : decide ((xs.length : Int) < 1) = false := decide_eq_false (by omega)
  have d1 : decide ((0 : Int) < (xs.length : Int)) = true := decide_eq_true (by omega)
  clear h
  have hx0 : xs[0] ∈ xs := List.getElem_mem _
  obtain ⟨x0, hx⟩ : ∃ x, xs[0] = x := ⟨_, rfl⟩
  rw [hx] at hx0 c0
  have HX := Lib.hid hx
  clear hx
  go_enter Try.func12, Try.ntmps12
  go_wp2_with fail
  go_loopw [3, 4] (fun v3 v4 wr => ∃ (k : Nat) (m : Int), 1 ≤ k ∧ k ≤ xs.length ∧ v4 = .int .i64 (k : Int) ∧ v3 = .int .i64 m ∧ wr = w ∧ m ∈ xs ∧ ∀ j (hj : j < xs.length), j < k → m ≤ xs[j]) (fun _ v4 _ => xs.length - (intOf v4).toNat)
  case atStart => exact ⟨1, x0, Nat.le_refl _, hp, rfl, rfl, rfl, hx0, fun j hj hj1 => by
    obtain rfl : j = 0 := by omega
    rw [HX.out]
    exact Int.le_refl _⟩
  case round =>
    obtain ⟨k, m, hk1, hk, rfl, rfl, rfl, hm, hall⟩ := hrel
    by_cases hlt : k < xs.length
    · have ck := H.out k hlt
      have hkm : xs[k] ∈ xs := List.getElem_mem _
      have HA := Lib.hid hall
      obtain ⟨y, hy⟩ : ∃ y, xs[k] = y := ⟨_, rfl⟩
      rw [hy] at ck hkm
      have HY := Lib.hid hy
      have d2 : decide (k < xs.length) = true := decide_eq_true hlt
      have hk0 : (0 : Int) ≤ (k : Int) := by omega
      clear hy hall
      go_wp2_with fail
      go_roundw
      case rel => 
        have hmin : (if y < m then y else m) = min m y := by omega
        rw [hmin]
        refine ⟨k + 1, min m y, by omega, by omega, by go_num, by simp, by trivial, ?_, fun j hj hjk => ?_⟩
        · rcases Int.le_total m y with h | h
          · rw [Int.min_eq_left h]; exact hm
          · rw [Int.min_eq_right h]; exact hkm
        · rcases Nat.lt_or_ge j k with h | h
          · exact Int.le_trans (Int.min_le_left _ _) (HA.out j hj h)
          · obtain rfl : j = k := by omega
            rw [HY.out]
            exact Int.min_le_right _ _
      case measure => simp [intOf]; omega
    · obtain rfl : k = xs.length := by omega
      go_wp2_with fail
      go_ret
      have hle : m = least xs := least_eq hm (fun x hx => by
        obtain ⟨j, hj, rfl⟩ := List.getElem_of_mem hx
        exact hall j hj hj)
      rw [hle]
      exact ⟨rfl, rfl⟩
section
variable {w0 w w' : World} {B g : Nat} {xs : List Int} {most : Int}
theorem now_nil (i : Int) (w : World) : Calls Try.prog 11 #[.pointer none, .int .i64 i] w fun e w' => e = .returned (.int .i64 0) ∧ w' = w := by
  go_enter Try.func11, Try.ntmps11
  go_wp2_with fail
  go_ret
  exact ⟨rfl, rfl⟩
theorem now_in (h : At w0 B g xs most w) (j : Nat) (hj : j < xs.length) : Calls Try.prog 11 #[.pointer (some ⟨g, 0, none⟩), .int .i64 (j : Int)] w fun e w' => e = .returned (.int .i64 xs[j]) ∧ w' = w := by
  have c0 := h.cell j hj
  have cn := h.n
  have hle := h.good.le
  have j5 : j < 5 := by omega
  have d0 : decide ((xs.length : Int) ≤ (j : Int)) = false := decide_eq_false (by omega)
  have d1 : decide ((j : Int) < 0) = false := decide_eq_false (by omega)
  generalize xs[j] = x at *
  clear h
  go_enter Try.func11, Try.ntmps11
  go_wp2_with fail
  go_ret
  exact ⟨rfl, rfl⟩
theorem now_out (h : At w0 B g xs most w) (i : Int) (hi : i < 0 ∨ (xs.length : Int) ≤ i) : Calls Try.prog 11 #[.pointer (some ⟨g, 0, none⟩), .int .i64 i] w fun e w' => e = .returned (.int .i64 0) ∧ w' = w := by
  have cn := h.n
  clear h
  rcases hi with hi | hi
  · have d0 : decide (i < 0) = true := decide_eq_true hi
    go_enter Try.func11, Try.ntmps11
    go_wp2_with fail
    go_ret
    exact ⟨rfl, rfl⟩
  · have d0 : decide (i < 0) = false := decide_eq_false (by omega)
    have d1 : decide ((xs.length : Int) ≤ i) = true := decide_eq_true hi
    go_enter Try.func11, Try.ntmps11
    go_wp2_with fail
    go_ret
    exact ⟨rfl, rfl⟩
theorem tick_nil (i d : Int) (w : World) : Calls Try.prog 10 #[.pointer none, .int .i64 i, .int .i64 d] w fun e w' => e = .returned (.int .i64 0) ∧ w' = w := by
  go_enter Try.func10, Try.ntmps10
  go_wp2_with fail
  go_ret
  exact ⟨rfl, rfl⟩
theorem tick_no (h : At w0 B g xs most w) (i d : Int) (hi : i < 0 ∨ (xs.length : Int) ≤ i ∨ d < 1) : Calls Try.prog 10 #[.pointer (some ⟨g, 0, none⟩), .int .i64 i, .int .i64 d] w fun e w' => e = .returned (.int .i64 0) ∧ w' = w := by
  have cn := h.n
  clear h
  by_cases h0 : i < 0
  · have d0 : decide (i < 0) = true := decide_eq_true h0
    go_enter Try.func10, Try.ntmps10
    go_wp2_with fail
    go_ret
    exact ⟨rfl, rfl⟩
  · have d0 : decide (i < 0) = false := decide_eq_false (by omega)
    by_cases h1 : (xs.length : Int) ≤ i
    · have d1 : decide ((xs.length : Int) ≤ i) = true := decide_eq_true h1
      go_enter Try.func10, Try.ntmps10
      go_wp2_with fail
      go_ret
      exact ⟨rfl, rfl⟩
    · have d1 : decide ((xs.length : Int) ≤ i) = false := decide_eq_false (by omega)
      have d2 : decide (d < 1) = true := decide_eq_true (by omega)
      go_enter Try.func10, Try.ntmps10
      go_wp2_with fail
      go_ret
      exact ⟨rfl, rfl⟩
theorem tick_in (h : At w0 B g xs most w) (j : Nat) (hj : j < xs.length) (d : Int) (hd : 1 ≤ d) : Calls Try.prog 10 #[.pointer (some ⟨g, 0, none⟩), .int .i64 (j : Int), .int .i64 d] w fun e w' =>
    e = .returned (.int .i64 (amt xs most j d)) ∧ At w0 B g (ticked xs most j d) most w' ∧ Fr w w' (fun k => k = g) := by
  have c0 := h.cell j hj
  have cn := h.n
  have cm := h.bound
  have fr := h.free j
  have hle := h.good.le
  have hpos := h.good.pos
  have j5 : j < 5 := by omega
  have d0 : decide ((xs.length : Int) ≤ (j : Int)) = false := decide_eq_false (by omega)
  have d00 : decide (xs.length ≤ j) = false := decide_eq_false (by omega)
  have d1 : decide ((j : Int) < 0) = false := decide_eq_false (by omega)
  have d2 : decide (d < 1) = false := decide_eq_false (by omega)
  have HN := Lib.hid (fun nq => h.next (pw_below_drewN (Below.refl _ _) nq))
  have HM := Lib.hid (fun nq => min_calls (w := w.drewN nq) (g := g) (c := 5) (xs := xs) (fun j hj => (HN.out nq).cell j hj) hpos hle hle)
  have H := Lib.hid h
  have hrd := rd_nat xs j hj
  have hl := h.good.least
  have hr := amt_range h.good (j : Int) d
  have hxm : xs[j] ∈ xs := List.getElem_mem _
  have hGt := h.good.ticked (j : Int) d
  have hT : ticked xs most (j : Int) d = xs.set j (xs[j] + amt xs most j d) := by
    unfold ticked
    rw [if_pos ⟨by omega, by omega⟩, hrd, Int.toNat_natCast]
  have hA : amt xs most (j : Int) d = if 1125899906842624 < xs[j] + min d (least xs + most - xs[j]) then 0 else min d (least xs + most - xs[j]) := by
    unfold amt
    rw [if_pos ⟨by omega, by omega, hd⟩, hrd]
  rw [hT] at hGt ⊢
  clear hT hrd
  have l1 := h.good.lo _ hl
  have l2 := h.good.hi _ hl
  have x1 := h.good.lo _ hxm
  have x2 := h.good.hi _ hxm
  have m1 := h.good.m1
  have m2 := h.good.m2
  have nr := h.good.near _ hxm _ hl
  have HG := Lib.hid hGt
  have hset : xs.set j xs[j] = xs := List.set_getElem_self hj
  obtain ⟨x, hx⟩ : ∃ x, xs[j] = x := ⟨_, rfl⟩
  rw [hx] at hset
  have HX := Lib.hid hset
  rw [hx] at c0 hA x1 x2 nr HG ⊢
  clear h hx hGt hr hxm hl hset
  have hw1 : wrap64 (least xs + most) = least xs + most := wrap_in (by omega) (by omega)
  have hw2 : wrap64 (least xs + most - x) = least xs + most - x := wrap_in (by omega) (by omega)
  have hif : (if wrap64 (wrap64 (least xs + most) - x) < d then wrap64 (wrap64 (least xs + most) - x) else d) = min d (least xs + most - x) := by
    rw [hw1, hw2]
    split <;> omega
  have hb0 : 0 ≤ min d (least xs + most - x) := by omega
  have hb1 : min d (least xs + most - x) ≤ 1125900980584448 := by omega
  clear hw1 hw2 nr m1 m2 l1 l2
  generalize hb : min d (least xs + most - x) = b at *
  have hs : wrap64 (x + b) = x + b := wrap_in (by omega) (by omega)
  have HI := Lib.hid hif
  have HS := Lib.hid hs
  have HA := Lib.hid hA
  clear hif hs hA hb
  have e1 : (xs.length : Int) ≤ 5 := by omega
  have e2 : (0 : Int) ≤ (xs.length : Int) := by omega
  have e3 : (j : Int) < 5 := by omega
  have e4 : (0 : Int) ≤ (j : Int) := by omega
  go_enter Try.func10, Try.ntmps10
  go_wp2_with fail
  go_quiet ((go_at_call 12; refine Calls.quiet_of_same (HM.out _)))
  rw [HI.out]
  have hmod := pw_below_drewN (Below.refl w.heap.size w) nq
  by_cases hbig : 1125899906842624 < x + b
  · have k0 : decide ((1125899906842624 : Int) < x + b) = true := decide_eq_true hbig
    have hA0 := HA.out
    rw [if_pos hbig] at hA0
    go_wp2_with fail
    go_ret
    rw [hA0, Int.add_zero, HX.out]
    exact ⟨rfl, HN.out nq, Fr.of_below hmod _⟩
  · have k0 : decide ((1125899906842624 : Int) < x + b) = false := decide_eq_false hbig
    have hA0 := HA.out
    rw [if_neg hbig] at hA0
    have hG := HG.out
    rw [hA0] at hG
    clear HG
    have HG := Lib.hid hG
    clear hG
    go_wp2_with fail
    go_region
    go_wp2_with fail
    go_ret
    rw [hA0]
    exact ⟨rfl, (HN.out (nq + 1)).put hj HG.out, ((Fr.refl w (fun k => k = g)).drewN (nq + 1)).setCell (p := ⟨g, j, none⟩) (.inl rfl) _⟩
theorem amt_no {i d : Int} (hi : i < 0 ∨ (xs.length : Int) ≤ i ∨ d < 1) : amt xs most i d = 0 := by
  unfold amt
  rw [if_neg (by omega)]
theorem ticked_no {i d : Int} (hi : i < 0 ∨ (xs.length : Int) ≤ i ∨ d < 1) : ticked xs most i d = xs := by
  unfold ticked
  split
  · rename_i hc
    obtain ⟨j, rfl⟩ : ∃ j : Nat, i = (j : Int) := ⟨i.toNat, by omega⟩
    rw [amt_no hi, Int.add_zero, rd_nat xs j (by omega), Int.toNat_natCast]
    exact List.set_getElem_self (by omega)
  · rfl
/-- Tick. -/
theorem tick_calls (h : At w0 B g xs most w) (i d : Int) : Calls Try.prog 10 #[.pointer (some ⟨g, 0, none⟩), .int .i64 i, .int .i64 d] w fun e w' =>
    e = .returned (.int .i64 (amt xs most i d)) ∧ At w0 B g (ticked xs most i d) most w' ∧ Fr w w' (fun k => k = g) := by
  by_cases hi : i < 0 ∨ (xs.length : Int) ≤ i ∨ d < 1
  · refine (tick_no h i d hi).mono ?_
    rintro e w' ⟨rfl, rfl⟩
    rw [amt_no hi, ticked_no hi]
    exact ⟨rfl, h, Fr.refl _ _⟩
  · obtain ⟨j, rfl⟩ : ∃ j : Nat, i = (j : Int) := ⟨i.toNat, by omega⟩
    exact tick_in h j (by omega) d (by omega)
/-- A clock, or none. -/
def nowOf (xs : List Int) (i : Int) : Int := if 0 ≤ i ∧ i < xs.length then rd xs i else 0
theorem now_calls (h : At w0 B g xs most w) (i : Int) : Calls Try.prog 11 #[.pointer (some ⟨g, 0, none⟩), .int .i64 i] w fun e w' => e = .returned (.int .i64 (nowOf xs i)) ∧ w' = w := by
  unfold nowOf
  split
  · rename_i hc
    obtain ⟨j, rfl⟩ : ∃ j : Nat, i = (j : Int) := ⟨i.toNat, by omega⟩
    rw [rd_nat xs j (by omega)]
    exact now_in h j (by omega)
  · exact now_out h i (by omega)
theorem zeros_good (n : Nat) (most : Int) (h0 : 1 ≤ n) (h1 : n ≤ 5) (m1 : 1 ≤ most) (m2 : most ≤ 1073741824) : Good (List.replicate n 0) most := by
  have hz : ∀ x ∈ List.replicate n (0 : Int), x = 0 := fun x hx => (List.mem_replicate.1 hx).2
  refine ⟨by rw [List.length_replicate]; omega, by rw [List.length_replicate]; omega, m1, m2, fun x hx => ?_, fun x hx => ?_, fun x hx y hy => ?_⟩
  · rw [hz x hx]; exact Int.le_refl _
  · rw [hz x hx]; omega
  · rw [hz x hx, hz y hy]; omega
theorem clk_zeros (n : Nat) (most : Int) (h1 : n ≤ 5) : clk (List.replicate n 0) most = #[.int .i64 0, .int .i64 0, .int .i64 0, .int .i64 0, .int .i64 0, .int .i64 n, .int .i64 most] := by
  unfold clk
  rw [List.map_replicate, List.length_replicate, ← List.append_assoc, List.replicate_append_replicate, show n + (5 - n) = 5 by omega]
  rfl
theorem new_calls (n most : Int) (w : World) (h0 : 1 ≤ n) (h1 : n ≤ 5) (m1 : 1 ≤ most) (m2 : most ≤ 1073741824) :
    Calls Try.prog 7 #[.int .i64 n, .int .i64 most] w fun e w' => e = .returned (.tuple #[.pointer (some ⟨w.heap.size, 0, none⟩), .int .i64 0]) ∧
      w' = w.alloc (.cells #[.int .i64 0, .int .i64 0, .int .i64 0, .int .i64 0, .int .i64 0, .int .i64 n, .int .i64 most] 38) := by
  have d0 : decide (n < 1) = false := decide_eq_false (by omega)
  have d1 : decide (5 < n) = false := decide_eq_false (by omega)
  have d2 : decide (most < 1) = false := decide_eq_false (by omega)
  have d3 : decide (1073741824 < most) = false := decide_eq_false (by omega)
  go_enter Try.func7, Try.ntmps7
  go_wp2_with fail
  exact bodyPost_ret (v := .tuple #[.pointer (some ⟨w.heap.size, 0, none⟩), .int .i64 0]) (by simp [results, Try.results7, go_sem]) rfl ⟨rfl, rfl⟩
theorem new_bad (n most : Int) (w : World) (hb : n < 1 ∨ 5 < n ∨ most < 1 ∨ 1073741824 < most) :
    Calls Try.prog 7 #[.int .i64 n, .int .i64 most] w fun e w' => e = .returned (.tuple #[.pointer none, .int .i64 1]) ∧ w' = w := by
  by_cases h0 : n < 1
  · have d0 : decide (n < 1) = true := decide_eq_true h0
    go_enter Try.func7, Try.ntmps7
    go_wp2_with fail
    exact bodyPost_ret (v := .tuple #[.pointer none, .int .i64 1]) (by simp [results, Try.results7, go_sem]) rfl ⟨rfl, rfl⟩
  have d0 : decide (n < 1) = false := decide_eq_false h0
  by_cases h1 : 5 < n
  · have d1 : decide (5 < n) = true := decide_eq_true h1
    go_enter Try.func7, Try.ntmps7
    go_wp2_with fail
    exact bodyPost_ret (v := .tuple #[.pointer none, .int .i64 1]) (by simp [results, Try.results7, go_sem]) rfl ⟨rfl, rfl⟩
  have d1 : decide (5 < n) = false := decide_eq_false h1
  by_cases h2 : most < 1
  · have d2 : decide (most < 1) = true := decide_eq_true h2
    go_enter Try.func7, Try.ntmps7
    go_wp2_with fail
    exact bodyPost_ret (v := .tuple #[.pointer none, .int .i64 1]) (by simp [results, Try.results7, go_sem]) rfl ⟨rfl, rfl⟩
  have d2 : decide (most < 1) = false := decide_eq_false h2
  have d3 : decide (1073741824 < most) = true := decide_eq_true (by omega)
  go_enter Try.func7, Try.ntmps7
  go_wp2_with fail
  exact bodyPost_ret (v := .tuple #[.pointer none, .int .i64 1]) (by simp [results, Try.results7, go_sem]) rfl ⟨rfl, rfl⟩
/-- New clocks, at the heap's end. -/
theorem At.new {w0 w : World} {B : Nat} (hB : B ≤ w.heap.size) (hb : Below B w0 w) (n most : Int) (h0 : 1 ≤ n) (h1 : n ≤ 5) (m1 : 1 ≤ most) (m2 : most ≤ 1073741824) :
    At w0 B w.heap.size (List.replicate n.toNat 0) most (w.alloc (.cells #[.int .i64 0, .int .i64 0, .int .i64 0, .int .i64 0, .int .i64 0, .int .i64 n, .int .i64 most] 38)) := by
  obtain ⟨k, rfl⟩ : ∃ k : Nat, n = (k : Int) := ⟨n.toNat, by omega⟩
  rw [Int.toNat_natCast]
  refine ⟨hB, by simp; omega, hb.alloc hB _, ?_, zeros_good k most (by omega) (by omega) m1 m2⟩
  rw [clk_zeros k most (by omega)]
  exact blk_new _ _
theorem tick_to {w0 w : World} {B g : Nat} {xs ys : List Int} {most i d a : Int} (h : At w0 B g xs most w) (e1 : amt xs most i d = a) (e2 : ticked xs most i d = ys) : Calls Try.prog 10 #[.pointer (some ⟨g, 0, none⟩), .int .i64 i, .int .i64 d] w fun e w' =>
    e = .returned (.int .i64 a) ∧ At w0 B g ys most w' := by
  refine (tick_calls h i d).mono ?_
  rintro e w' ⟨he, hA, _⟩
  rw [e1] at he
  rw [e2] at hA
  exact ⟨he, hA⟩
theorem awake_calls (W : World) : Calls Try.prog 8 #[] W fun e w' => e = .returned (.bool true) ∧ Below W.heap.size W w' := by
  go_enter Try.func8, Try.ntmps8
  go_wp2_with fail
  refine (new_calls 2 3 W (by decide) (by decide) (by decide) (by decide)).mono ?_
  rintro e w1 ⟨rfl, rfl⟩
  have h1 := Lib.hid (At.new (Nat.le_refl _) (Below.refl W.heap.size W) 2 3 (by decide) (by decide) (by decide) (by decide))
  go_wp2_with fail
  refine (tick_to (ys := [3, 0]) (a := 3) h1.out (by decide) (by decide)).mono ?_
  rintro e w2 ⟨rfl, hA2⟩
  have HA2 := Lib.hid hA2
  clear hA2 h1
  go_wp2_with fail
  refine (tick_to (ys := [3, 0]) (a := 0) HA2.out (by decide) (by decide)).mono ?_
  rintro e w3 ⟨rfl, hA3⟩
  have HA3 := Lib.hid hA3
  clear hA3 HA2
  go_wp2_with fail
  refine (tick_to (ys := [3, 2]) (a := 2) HA3.out (by decide) (by decide)).mono ?_
  rintro e w4 ⟨rfl, hA4⟩
  have HA4 := Lib.hid hA4
  clear hA4 HA3
  go_wp2_with fail
  refine (tick_to (ys := [5, 2]) (a := 2) HA4.out (by decide) (by decide)).mono ?_
  rintro e w5 ⟨rfl, hA5⟩
  have HN : Calls Try.prog 11 #[.pointer (some ⟨W.heap.size, 0, none⟩), .int .i64 0] w5 fun e w' => e = .returned (.int .i64 5) ∧ w' = w5 := now_calls hA5 0
  have HN2 := Lib.hid HN
  have HA5 := Lib.hid hA5
  clear hA5 HA4 HN
  go_wp2_with fail
  refine HN2.out.mono ?_
  rintro e w6 ⟨rfl, rfl⟩
  go_wp2_with fail
  go_ret
  exact ⟨rfl, HA5.out.below⟩
end
end Go.Proofs.Ytkpigklcbigfdaa.Clk
