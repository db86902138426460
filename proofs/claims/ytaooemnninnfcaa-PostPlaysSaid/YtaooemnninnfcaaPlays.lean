/- The walk of the law PostPlays: for every script it returns true. -/
import Derived.Test.YtaooemnninnfcaaPair
namespace Go.Proofs.Ytaooemnninnfcaa.Bag
set_option linter.unusedVariables false
set_option linter.unusedSimpArgs false
open Go.RowKit Go.Proofs.Ytaooemnninnfcaa.PAll Go.Proofs.YtaooemnninnfcaaW.PrintWords Go.Proofs.YtaooemnninnfcaaW.PrintLast Go.Proofs.YtaooemnninnfcaaW.PrintMore

/-- A call of the script: its kind, its number, its letter. -/
def kOp : Kd (Int × Int × S28) := Kd.pair (Kd.int .i64) (Kd.pair (Kd.int .i64) k28)
theorem kOp_open {w : World} {x : Int × Int × S28} {cs : List Value} (h : kOp.K w x cs) : cs = [.int .i64 x.1, .int .i64 x.2.1, .int .i64 x.2.2.f0, .int .i64 x.2.2.f1, .string x.2.2.f2] := by
  obtain ⟨_, _, rfl, rfl, ⟨_, _, rfl, rfl, h⟩⟩ := h
  rw [k28_open h]
  rfl
theorem op_at {W w : World} {A : Option Addr} {l : List (Int × Int × S28)} (h : Kd.C kOp W A l.length l) (hb : Below W.heap.size W w) (i : Nat) (hi : i < l.length) :
    ∃ ad, A = some ad ∧ w.cell? (ad.add (i * 5)) = some (.int .i64 (l[i]).1) ∧ w.cell? ⟨(ad.add (i * 5)).block, (ad.add (i * 5)).off + 1, none⟩ = some (.int .i64 (l[i]).2.1) ∧ w.cell? ⟨(ad.add (i * 5)).block, (ad.add (i * 5)).off + 2, none⟩ = some (.int .i64 (l[i]).2.2.f0) ∧
      w.cell? ⟨(ad.add (i * 5)).block, (ad.add (i * 5)).off + 3, none⟩ = some (.int .i64 (l[i]).2.2.f1) ∧ w.cell? ⟨(ad.add (i * 5)).block, (ad.add (i * 5)).off + 4, none⟩ = some (.string (l[i]).2.2.f2) := by
  obtain ⟨ad, c, e, _, hK, hc0⟩ := Kd.C_get h (0, 0, z28) (i : Int) (by omega) (by omega)
  have hg : l.getD ((i : Int).toNat) (0, 0, z28) = l[i] := by
    rw [Int.toNat_natCast, List.getD_eq_getElem?_getD, List.getElem?_eq_getElem hi]
    rfl
  rw [hg] at hK
  have hc : ∀ j u, c[j]? = some u → w.cell? (ad.add (i * 5 + j)) = some u := fun j u hj => by
    have h1 := hc0 j u hj
    exact (hb.cell (World.block_lt_of_cell? W _ h1)).trans h1
  obtain rfl := kOp_open hK
  exact ⟨ad, e, hc 0 _ rfl, by rw [← add_field _ _ 1 (by omega)]; exact hc 1 _ rfl, by rw [← add_field _ _ 2 (by omega)]; exact hc 2 _ rfl, by rw [← add_field _ _ 3 (by omega)]; exact hc 3 _ rfl, by rw [← add_field _ _ 4 (by omega)]; exact hc 4 _ rfl⟩

/-- The round's three boxes: the call, what is wanted, what was got. -/
structure Boxes (b : Nat) (kd q : Int) (x y z : S28) (w : World) : Prop where
  o : w.heap[b]? = some (.cells #[.int .i64 kd, .int .i64 q, .int .i64 x.f0, .int .i64 x.f1, .string x.f2] 30 (0, 0))
  y : w.heap[b + 1]? = some (.cells #[.int .i64 y.f0, .int .i64 y.f1, .string y.f2] 28 (0, 0))
  z : w.heap[b + 1 + 1]? = some (.cells #[.int .i64 z.f0, .int .i64 z.f1, .string z.f2] 28 (0, 0))
theorem Boxes.fr {b : Nat} {kd q : Int} {x y z : S28} {w w' : World} {S : Nat → Prop} (h : Boxes b kd q x y z w) (f : Fr w w' S) (hS : ∀ k, b ≤ k → k ≤ b + 1 + 1 → ¬ S k) : Boxes b kd q x y z w' :=
  ⟨f.blk h.o (hS _ (by omega) (by omega)), f.blk h.y (hS _ (by omega) (by omega)), f.blk h.z (hS _ (by omega) (by omega))⟩
theorem Boxes.facts {b : Nat} {kd q : Int} {x y z : S28} {w : World} (h : Boxes b kd q x y z w) :
    (w.cell? ⟨b, 0, none⟩ = some (.int .i64 kd) ∧ w.cell? ⟨b, 1, none⟩ = some (.int .i64 q) ∧ w.cell? ⟨b, 2, none⟩ = some (.int .i64 x.f0) ∧ w.cell? ⟨b, 3, none⟩ = some (.int .i64 x.f1) ∧ w.cell? ⟨b, 4, none⟩ = some (.string x.f2)) ∧
    (w.cell? ⟨b + 1, 0, none⟩ = some (.int .i64 y.f0) ∧ w.cell? ⟨b + 1, 1, none⟩ = some (.int .i64 y.f1) ∧ w.cell? ⟨b + 1, 2, none⟩ = some (.string y.f2)) ∧
    (w.cell? ⟨b + 1 + 1, 0, none⟩ = some (.int .i64 z.f0) ∧ w.cell? ⟨b + 1 + 1, 1, none⟩ = some (.int .i64 z.f1) ∧ w.cell? ⟨b + 1 + 1, 2, none⟩ = some (.string z.f2)) ∧
    (w.frozen? ⟨b + 1, 0, none⟩ = false ∧ w.frozen? ⟨b + 1, 1, none⟩ = false ∧ w.frozen? ⟨b + 1, 2, none⟩ = false) ∧
    (w.frozen? ⟨b + 1 + 1, 0, none⟩ = false ∧ w.frozen? ⟨b + 1 + 1, 1, none⟩ = false ∧ w.frozen? ⟨b + 1 + 1, 2, none⟩ = false) ∧ b + 1 + 1 < w.heap.size :=
  ⟨⟨(blk_cell h.o 0).trans rfl, (blk_cell h.o 1).trans rfl, (blk_cell h.o 2).trans rfl, (blk_cell h.o 3).trans rfl, (blk_cell h.o 4).trans rfl⟩,
    ⟨(blk_cell h.y 0).trans rfl, (blk_cell h.y 1).trans rfl, (blk_cell h.y 2).trans rfl⟩, ⟨(blk_cell h.z 0).trans rfl, (blk_cell h.z 1).trans rfl, (blk_cell h.z 2).trans rfl⟩,
    ⟨blk_frozen h.y 0, blk_frozen h.y 1, blk_frozen h.y 2⟩, ⟨blk_frozen h.z 0, blk_frozen h.z 1, blk_frozen h.z 2⟩, blk_lt h.z⟩
theorem boxes_new (w : World) (kd q : Int) (x y z : S28) : Boxes w.heap.size kd q x y z (((w.alloc (.cells #[.int .i64 kd, .int .i64 q, .int .i64 x.f0, .int .i64 x.f1, .string x.f2] 30)).alloc (.cells #[.int .i64 y.f0, .int .i64 y.f1, .string y.f2] 28)).alloc (.cells #[.int .i64 z.f0, .int .i64 z.f1, .string z.f2] 28)) := by
  have h1 := blk_new (w.alloc (.cells #[.int .i64 kd, .int .i64 q, .int .i64 x.f0, .int .i64 x.f1, .string x.f2] 30)) (.cells #[.int .i64 y.f0, .int .i64 y.f1, .string y.f2] 28)
  have h2 := blk_new ((w.alloc (.cells #[.int .i64 kd, .int .i64 q, .int .i64 x.f0, .int .i64 x.f1, .string x.f2] 30)).alloc (.cells #[.int .i64 y.f0, .int .i64 y.f1, .string y.f2] 28)) (.cells #[.int .i64 z.f0, .int .i64 z.f1, .string z.f2] 28)
  have e1 : (w.alloc (.cells #[.int .i64 kd, .int .i64 q, .int .i64 x.f0, .int .i64 x.f1, .string x.f2] 30)).heap.size = w.heap.size + 1 := by simp
  have e2 : ((w.alloc (.cells #[.int .i64 kd, .int .i64 q, .int .i64 x.f0, .int .i64 x.f1, .string x.f2] 30)).alloc (.cells #[.int .i64 y.f0, .int .i64 y.f1, .string y.f2] 28)).heap.size = w.heap.size + 1 + 1 := by simp
  rw [e1] at h1
  rw [e2] at h2
  exact ⟨blk_alloc (blk_alloc (blk_new _ _) _) _, blk_alloc h1 _, h2⟩
/-- What was got, written anew. -/
def put3 (w : World) (b : Nat) (z : S28) : World := ((w.setCell ⟨b, 0, none⟩ (.int .i64 z.f0)).setCell ⟨b, 1, none⟩ (.int .i64 z.f1)).setCell ⟨b, 2, none⟩ (.string z.f2)
theorem put3_fr (w : World) (b : Nat) (z : S28) : Fr w (put3 w b z) (fun k => k = b) :=
  (((Fr.refl w (fun k => k = b)).setCell (p := ⟨b, 0, none⟩) (.inl rfl) _).setCell (p := ⟨b, 1, none⟩) (.inl rfl) _).setCell (p := ⟨b, 2, none⟩) (.inl rfl) _
theorem Boxes.put_z {b : Nat} {kd q : Int} {x y z z' : S28} {w : World} (h : Boxes b kd q x y z w) : Boxes b kd q x y z' (put3 w (b + 1 + 1) z') :=
  ⟨(put3_fr w _ z').blk h.o (by omega), (put3_fr w _ z').blk h.y (by omega), blk_put (blk_put (blk_put h.z 0 _ rfl) 1 _ rfl) 2 _ rfl⟩
theorem Boxes.put_y {b : Nat} {kd q : Int} {x y y' z : S28} {w : World} (h : Boxes b kd q x y z w) : Boxes b kd q x y' z (put3 w (b + 1) y') :=
  ⟨(put3_fr w _ y').blk h.o (by omega), blk_put (blk_put (blk_put h.y 0 _ rfl) 1 _ rfl) 2 _ rfl, (put3_fr w _ y').blk h.z (by omega)⟩

/-- A round's state: the bag of xp, the row of xr, the boxes from block b on. -/
structure At (w0 : World) (B P b : Nat) (vp u : Value) (xp xr : List S28) (kd q : Int) (x y z : S28) (w : World) : Prop where
  now : Now w0 B P vp xp w
  row : Row B u xr w
  far : Far vp u
  box : Boxes b kd q x y z w
  lo : P < b
  rp : ∀ k, vp.ownBlock = some k → k < b ∨ b + 1 + 1 < k
  ru : ∀ k, u.ownBlock = some k → k < b ∨ b + 1 + 1 < k
theorem At.start {w0 wr : World} {B P : Nat} {vp u : Value} {xs : List S28} (hN : Now w0 B P vp xs wr) (hr : Row B u xs wr) (hf : Far vp u) (kd q : Int) (x y z : S28) :
    At w0 B P wr.heap.size vp u xs xs kd q x y z (((wr.alloc (.cells #[.int .i64 kd, .int .i64 q, .int .i64 x.f0, .int .i64 x.f1, .string x.f2] 30)).alloc (.cells #[.int .i64 y.f0, .int .i64 y.f1, .string y.f2] 28)).alloc (.cells #[.int .i64 z.f0, .int .i64 z.f1, .string z.f2] 28)) := by
  have hb : Below wr.heap.size wr (((wr.alloc (.cells #[.int .i64 kd, .int .i64 q, .int .i64 x.f0, .int .i64 x.f1, .string x.f2] 30)).alloc (.cells #[.int .i64 y.f0, .int .i64 y.f1, .string y.f2] 28)).alloc (.cells #[.int .i64 z.f0, .int .i64 z.f1, .string z.f2] 28)) :=
    (((Below.refl _ _).alloc (Nat.le_refl _) _).alloc (by simp) _).alloc (by simp; omega) _
  exact ⟨hN.next hb, hr.next hb, hf, boxes_new _ _ _ _ _ _, hN.bag.lt, fun k hk => .inl (hN.row k hk), fun k hk => .inl (hr.lt k hk)⟩
section
variable {w0 w w' : World} {B P b : Nat} {vp vp' u u' : Value} {xp xr ys : List S28} {kd q : Int} {x y z : S28}
theorem At.next (h : At w0 B P b vp u xp xr kd q x y z w) (hb : Below w.heap.size w w') : At w0 B P b vp u xp xr kd q x y z w' :=
  ⟨h.now.next hb, h.row.next hb, h.far, h.box.fr (Fr.of_below hb (fun _ => False)) (fun _ _ _ h => h), h.lo, h.rp, h.ru⟩
theorem At.size (h : At w0 B P b vp u xp xr kd q x y z w) : b + 1 + 1 < w.heap.size := blk_lt h.box.z
/-- A call on the bag. -/
theorem At.move (h : At w0 B P b vp u xp xr kd q x y z w) (hn : Now w0 B P vp' ys w') (hm : Moves w P vp vp' w') : At w0 B P b vp' u ys xr kd q x y z w' := by
  obtain ⟨hr, hf⟩ := h.row.move h.now h.far hm
  refine ⟨hn, hr, hf, h.box.fr hm.1 (fun k h1 h2 hs => ?_), h.lo, fun k hk => ?_, h.ru⟩
  · rcases hs with hs | hs
    · have := h.lo; omega
    · have := h.rp k hs; omega
  · rcases hm.2 k hk with h1 | h1
    · exact h.rp k h1
    · have := h.size; omega
theorem At.put_z (h : At w0 B P b vp u xp xr kd q x y z w) (z' : S28) : At w0 B P b vp u xp xr kd q x y z' (put3 w (b + 1 + 1) z') := by
  have hB := h.now.bag.1
  have hlo := h.lo
  exact ⟨h.now.fr (put3_fr w _ z') (fun k hk => by omega) (by omega) (fun k hk hs => by have := h.rp k hk; omega), h.row.fr (put3_fr w _ z') (fun k hk hs => by have := h.ru k hk; omega), h.far, h.box.put_z, h.lo, h.rp, h.ru⟩
theorem At.put_y (h : At w0 B P b vp u xp xr kd q x y z w) (y' : S28) : At w0 B P b vp u xp xr kd q x y' z (put3 w (b + 1) y') := by
  have hB := h.now.bag.1
  have hlo := h.lo
  exact ⟨h.now.fr (put3_fr w _ y') (fun k hk => by omega) (by omega) (fun k hk hs => by have := h.rp k hk; omega), h.row.fr (put3_fr w _ y') (fun k hk hs => by have := h.ru k hk; omega), h.far, h.box.put_y, h.lo, h.rp, h.ru⟩
/-- The row gives way to a new one. -/
theorem At.renew (h : At w0 B P b vp u xp xr kd q x y z w) (hb : Below w.heap.size w w') (hr : Row B u' ys w') (hnew : ∀ k, u'.ownBlock = some k → w.heap.size ≤ k) : At w0 B P b vp u' xp ys kd q x y z w' := by
  have h2 := h.next hb
  exact ⟨h2.now, hr, fun k hk hu => by have := h.now.row k hk; have := hnew k hu; omega, h2.box, h.lo, h.rp, fun k hk => .inr (by have := hnew k hk; have := h.size; omega)⟩
end

section
variable {w0 w w1 w' : World} {B P b : Nat} {vp u u' : Value} {xp xr ys : List S28} {kd q : Int} {x y z : S28}
/-- The row grew. -/
theorem At.grown (h : At w0 B P b vp u xp xr kd q x y z w) (h1 : Below w.heap.size w w1) (hg : w1.grownBy w' u.ownBlock) (hr : Row B u' ys w') (hat : u'.ownBlock = u.ownBlock ∨ ∃ k, u'.ownBlock = some k ∧ w.heap.size ≤ k) : At w0 B P b vp u' xp ys kd q x y z w' := by
  have f : Fr w w' (fun k => u.ownBlock = some k) := (Fr.of_below h1 (fun k => u.ownBlock = some k)).trans (Fr.of_grown hg) (fun k hk => .inl hk)
  refine ⟨h.now.fr f (fun k hk => (h.row.own.lt k hk).1) (h.row.ne h.now.bag) (fun k hk hs => h.far k hk hs), hr, fun k hk hu => ?_, h.box.fr f (fun k h1 h2 hs => by have := h.ru k hs; omega), h.lo, h.rp, fun k hk => ?_⟩
  · rcases hat with he | ⟨j, he, hj⟩
    · exact h.far k hk (he.symm.trans hu)
    · have h2 := h.now.row k hk
      rw [he] at hu
      injection hu with hu
      omega
  · rcases hat with he | ⟨j, he, hj⟩
    · exact h.ru k (he.symm.trans hk)
    · have h2 := h.size
      rw [he] at hk
      injection hk with hk
      omega
end

theorem plays_short (A : Option Addr) (l : List (Int × Int × S28)) (c : Nat) (W : World) (ho : decide (400 < (l.length : Int)) = true) :
    Calls Try.prog 3 #[.slice A l.length c] W fun e w' => e = .returned (.bool true) ∧ Below W.heap.size W w' := by
  have hb := Below.refl W.heap.size W
  go_enter Try.func3, Try.ntmps3
  go_wp2_with (go_at_call 7; refine (awake_calls _).mono ?_; rintro e w1 ⟨rfl, hb2⟩; have hb1 := hb.trans (hb2.mono hb.size); clear hb hb2; have hb := hb1; clear hb1)
  go_ret
  exact ⟨rfl, hb⟩
set_option maxRecDepth 100000 in
set_option maxHeartbeats 4000000 in
theorem plays_walk (A : Option Addr) (l : List (Int × Int × S28)) (c : Nat) (W : World) (h : Kd.C kOp W A l.length l) (hc : l.length ≤ c) (hl : l.length ≤ 400) :
    Calls Try.prog 3 #[.slice A l.length c] W fun e w' => e = .returned (.bool true) ∧ Below W.heap.size W w' := by
  have H := Lib.hid h
  have HI := Lib.hid info28
  clear h
  have d1 : decide (400 < (l.length : Int)) = false := decide_eq_false (by omega)
  go_enter Try.func3, Try.ntmps3
  go_wp2_with (first | (go_at_call 7; refine (awake_calls _).mono ?_; rintro e w1 ⟨rfl, hb1⟩) | (go_at_call 8; refine (new_calls _ _ (Nat.le_refl _)).mono ?_; rintro e w2 ⟨rfl, rfl⟩))
  have p0 := new_now W w1 W.heap.size hb1.size hb1
  clear hb1
  generalize w1.alloc (.cells #[.slice none 0 0] 44) = w2 at *
  generalize w1.heap.size = P at *
  have hlen : l.length ≤ 9223372036854775807 := by omega
  go_loopw [4, 22] (fun v4 v22 wr => ∃ (k : Nat) (vp : Value) (xs : List S28), k ≤ l.length ∧ v22 = .int .i64 (k : Int) ∧ xs.length ≤ k ∧ Now W W.heap.size P vp xs wr ∧ Row W.heap.size v4 xs wr ∧ Far vp v4) (fun _ v22 _ => l.length - (intOf v22).toNat)
  case atStart => exact ⟨0, _, [], Nat.zero_le _, rfl, Nat.le_refl _, p0, ⟨World.ownsRow_nil _ _ _ _⟩, Far.nil _⟩
  case round =>
    clear p0
    obtain ⟨k, vp, xs, hk, rfl, hxk, hN, hrow, hf⟩ := hrel
    by_cases hlt : k < l.length
    · obtain ⟨Ar, cr, rfl⟩ := Kd.R_slice (row_R hrow.own)
      obtain ⟨ad, rfl, c0, c1, c2, c3, c4⟩ := op_at H.out hN.below k hlt
      generalize l[k] = o at *
      obtain ⟨kd, q, x⟩ := o
      simp only [] at c0 c1 c2 c3 c4
      have hgl := hN.bag.lt
      by_cases hin : 0 ≤ q ∧ q < (xs.length : Int)
      · obtain ⟨j, rfl⟩ : ∃ j : Nat, q = (j : Int) := ⟨q.toNat, by omega⟩
        have hj : j < xs.length := by omega
        have g1 : decide ((0 : Int) ≤ (j : Int)) = true := decide_eq_true (by omega)
        have g2 : decide (j < xs.length) = true := decide_eq_true hj
        have g3 : decide ((j : Int) < (xs.length : Int)) = true := decide_eq_true (by omega)
        obtain ⟨rr, rfl, hrlt, hrc, rc0, rc1, rc2⟩ := hrow.cells j hj
        obtain ⟨y, hy⟩ : ∃ y, xs[j] = y := ⟨_, rfl⟩
        rw [hy] at rc0 rc1 rc2
        have HY := Lib.hid hy
        have hx400 : xs.length ≤ 400 := by omega
        clear hy
        by_cases hk1 : kd = 1
        · subst hk1
          have HA := Lib.hid (At.start hN hrow hf 1 (j : Int) x y ⟨0, 0, ⟨#[]⟩⟩)
          clear hN hrow hf
          go_wp2_with fail
          generalize ((wr.alloc (.cells #[.int .i64 1, .int .i64 (j : Int), .int .i64 x.f0, .int .i64 x.f1, .string x.f2] 30)).alloc (.cells #[.int .i64 y.f0, .int .i64 y.f1, .string y.f2] 28)).alloc (.cells #[.int .i64 0, .int .i64 0, .string ⟨#[]⟩] 28) = w4 at *
          generalize wr.heap.size = b at *
          have hT := now_send HA.out.now x (by omega)
          simp only [lv] at hT
          refine hT.mono ?_
          rintro e w5 ⟨rfl, v5, hN5, hm5⟩
          have hA5 := HA.out.move hN5 hm5
          obtain ⟨⟨o0, o1, o2, o3, o4⟩, ⟨y0, y1, y2⟩, ⟨z0, z1, z2⟩, ⟨fy0, fy1, fy2⟩, ⟨fz0, fz1, fz2⟩, hsz⟩ := hA5.box.facts
          have HO := Lib.hid (Kd.R_mono (ok' := fun _ => True) (row_R hA5.row.own) (fun _ _ => trivial))
          have HBl := Lib.hid hA5.now.below
          have HSz := Lib.hid hA5.now.size
          have HA5 := Lib.hid hA5
          clear HA hT hN5 hm5 hA5
          go_wp2_with (first | (at_builtin; refine Kd.R_append k28 (w0 := W) W.heap.size rfl (.tmp 54) (.tmp 57) 26 28 (.agg #[(.int .i64 0), (.int .i64 0), (.string ⟨#[]⟩)]) 32 rfl Try.underlying26 HI.out rfl (by decide) (by decide) _ xs x [.int .i64 x.f0, .int .i64 x.f1, .string x.f2] (fun _ => True) (fun _ => False) rfl rfl (k28_mkM _ _ _ x) (fun _ hk => hk.elim) (fun _ _ => trivial) HO.out HBl.out HSz.out (by omega) ?_; intro v6 w6 hR hB hG hat; have HA6 := Lib.hid (HA5.out.grown (Below.refl _ _) hG ⟨R_row hR⟩ hat); clear HO HBl HSz HA5 hR hB hG hat o0 o1 o2 o3 o4 y0 y1 y2 z0 z1 z2 fy0 fy1 fy2 fz0 fz1 fz2 hsz; obtain ⟨⟨o0, o1, o2, o3, o4⟩, ⟨y0, y1, y2⟩, ⟨z0, z1, z2⟩, ⟨fy0, fy1, fy2⟩, ⟨fz0, fz1, fz2⟩, hsz⟩ := HA6.out.box.facts; obtain ⟨A6, c6, rfl⟩ := Kd.R_slice (row_R HA6.out.row.own); have HA7 := Lib.hid (HA6.out.put_y ⟨0, 0, ⟨#[]⟩⟩)) | (go_at_call 14; refine (now_len HA7.out.now).mono ?_; rintro e w7 ⟨rfl, rfl⟩))
          go_roundw
          case rel =>
            have h7 := HA7.out.row
            have h8 := HA7.out.far
            rw [List.length_append, List.length_singleton] at h7 h8
            exact ⟨k + 1, _, _, by omega, by go_num, by rw [List.length_append]; simp; omega, HA7.out.now, h7, h8⟩
          case measure => simp [intOf]; omega
        by_cases hk2 : kd = 2
        · subst hk2
          have HA := Lib.hid (At.start hN hrow hf 2 (j : Int) x y ⟨0, 0, ⟨#[]⟩⟩)
          clear hN hrow hf
          go_wp2_with fail
          generalize ((wr.alloc (.cells #[.int .i64 2, .int .i64 (j : Int), .int .i64 x.f0, .int .i64 x.f1, .string x.f2] 30)).alloc (.cells #[.int .i64 y.f0, .int .i64 y.f1, .string y.f2] 28)).alloc (.cells #[.int .i64 0, .int .i64 0, .string ⟨#[]⟩] 28) = w4 at *
          generalize wr.heap.size = b at *
          have hT := now_take HA.out.now j hj (by omega)
          rw [HY.out] at hT
          simp only [lv] at hT
          refine hT.mono ?_
          rintro e w5 ⟨rfl, v5, hN5, hm5⟩
          have hA5 := HA.out.move hN5 hm5
          clear hN5 hm5
          have HA6 := Lib.hid (hA5.put_z y)
          obtain ⟨⟨o0, o1, o2, o3, o4⟩, ⟨y0, y1, y2⟩, ⟨z0, z1, z2⟩, ⟨fy0, fy1, fy2⟩, ⟨fz0, fz1, fz2⟩, hsz⟩ := hA5.box.facts
          clear HA hT hA5
          go_wp2_with fail
          refine (without_calls (w0 := W) HA6.out.row j hj (by omega) HA6.out.now.size).mono ?_
          rintro e w6 ⟨u6', rfl, hR6, hb6, hn6⟩
          obtain ⟨A6, c6, rfl⟩ := Kd.R_slice (row_R hR6.own)
          have HA7 := Lib.hid (HA6.out.renew hb6 hR6 hn6)
          clear HA6 hR6 hb6 hn6
          go_wp2_with (go_at_call 14; refine (now_len HA7.out.now).mono ?_; rintro e w7 ⟨rfl, rfl⟩)
          go_roundw
          case rel => exact ⟨k + 1, _, _, by omega, by go_num, by rw [without_length xs j hj]; omega, HA7.out.now, HA7.out.row, HA7.out.far⟩
          case measure => simp [intOf]; omega
        by_cases hk3 : kd = 3
        · subst hk3
          have HA := Lib.hid (At.start hN hrow hf 3 (j : Int) x y ⟨0, 0, ⟨#[]⟩⟩)
          clear hN hrow hf
          go_wp2_with fail
          generalize ((wr.alloc (.cells #[.int .i64 3, .int .i64 (j : Int), .int .i64 x.f0, .int .i64 x.f1, .string x.f2] 30)).alloc (.cells #[.int .i64 y.f0, .int .i64 y.f1, .string y.f2] 28)).alloc (.cells #[.int .i64 0, .int .i64 0, .string ⟨#[]⟩] 28) = w4 at *
          generalize wr.heap.size = b at *
          have hT := now_copy HA.out.now j hj
          rw [HY.out] at hT
          simp only [lv] at hT
          refine hT.mono ?_
          rintro e w5 ⟨rfl, hb5⟩
          have hA5 := HA.out.next hb5
          clear hb5
          have HA7 := Lib.hid (hA5.put_z y)
          obtain ⟨⟨o0, o1, o2, o3, o4⟩, ⟨y0, y1, y2⟩, ⟨z0, z1, z2⟩, ⟨fy0, fy1, fy2⟩, ⟨fz0, fz1, fz2⟩, hsz⟩ := hA5.box.facts
          clear HA hT hA5
          go_wp2_with (go_at_call 14; refine (now_len HA7.out.now).mono ?_; rintro e w7 ⟨rfl, rfl⟩)
          go_roundw
          case rel => exact ⟨k + 1, _, _, by omega, by go_num, by omega, HA7.out.now, HA7.out.row, HA7.out.far⟩
          case measure => simp [intOf]; omega
        by_cases hk4 : kd = 4
        · subst hk4
          have HA := Lib.hid (At.start hN hrow hf 4 (j : Int) x y ⟨0, 0, ⟨#[]⟩⟩)
          clear hN hrow hf
          go_wp2_with fail
          generalize ((wr.alloc (.cells #[.int .i64 4, .int .i64 (j : Int), .int .i64 x.f0, .int .i64 x.f1, .string x.f2] 30)).alloc (.cells #[.int .i64 y.f0, .int .i64 y.f1, .string y.f2] 28)).alloc (.cells #[.int .i64 0, .int .i64 0, .string ⟨#[]⟩] 28) = w4 at *
          generalize wr.heap.size = b at *
          have hT := now_lose HA.out.now j hj (by omega)
          refine hT.mono ?_
          rintro e w5 ⟨rfl, v5, hN5, hm5⟩
          have hA5 := HA.out.move hN5 hm5
          clear hN5 hm5
          have HA6 := Lib.hid (hA5.put_y ⟨0, 0, ⟨#[]⟩⟩)
          obtain ⟨⟨o0, o1, o2, o3, o4⟩, ⟨y0, y1, y2⟩, ⟨z0, z1, z2⟩, ⟨fy0, fy1, fy2⟩, ⟨fz0, fz1, fz2⟩, hsz⟩ := hA5.box.facts
          clear HA hT hA5
          go_wp2_with fail
          refine (without_calls (w0 := W) HA6.out.row j hj (by omega) HA6.out.now.size).mono ?_
          rintro e w6 ⟨u6', rfl, hR6, hb6, hn6⟩
          obtain ⟨A6, c6, rfl⟩ := Kd.R_slice (row_R hR6.own)
          have HA7 := Lib.hid (HA6.out.renew hb6 hR6 hn6)
          clear HA6 hR6 hb6 hn6
          go_wp2_with (go_at_call 14; refine (now_len HA7.out.now).mono ?_; rintro e w7 ⟨rfl, rfl⟩)
          go_roundw
          case rel => exact ⟨k + 1, _, _, by omega, by go_num, by rw [without_length xs j hj]; omega, HA7.out.now, HA7.out.row, HA7.out.far⟩
          case measure => simp [intOf]; omega
        have n1 : (kd = 1) = False := eq_false hk1
        have m1 : (kd == 1) = false := beq_eq_false_iff_ne.mpr hk1
        have n2 : (kd = 2) = False := eq_false hk2
        have m2 : (kd == 2) = false := beq_eq_false_iff_ne.mpr hk2
        have n3 : (kd = 3) = False := eq_false hk3
        have m3 : (kd == 3) = false := beq_eq_false_iff_ne.mpr hk3
        have n4 : (kd = 4) = False := eq_false hk4
        have m4 : (kd == 4) = false := beq_eq_false_iff_ne.mpr hk4
        have HA7 := Lib.hid (At.start hN hrow hf kd (j : Int) x ⟨0, 0, ⟨#[]⟩⟩ ⟨0, 0, ⟨#[]⟩⟩)
        clear hN hrow hf hk1 hk2 hk3 hk4
        go_wp2_with (go_at_call 14; refine (now_len HA7.out.now).mono ?_; rintro e w7 ⟨rfl, rfl⟩)
        go_roundw
        case rel => exact ⟨k + 1, _, _, by omega, by go_num, by omega, HA7.out.now, HA7.out.row, HA7.out.far⟩
        case measure => simp [intOf]; omega
      · have hout0 : q < 0 ∨ (xs.length : Int) ≤ q := by omega
        have hg : decide ((0 : Int) ≤ q) = false ∨ (decide ((0 : Int) ≤ q) = true ∧ decide (q < (xs.length : Int)) = false) := by
          by_cases hq : q < 0
          · exact .inl (decide_eq_false (by omega))
          · exact .inr ⟨decide_eq_true (by omega), decide_eq_false (by omega)⟩
        have hout := Lib.hid hout0
        have hx400 : xs.length ≤ 400 := by omega
        clear hin hout0
        rcases hg with g1 | ⟨g1, g3⟩
        all_goals
          by_cases hk1 : kd = 1
          · subst hk1
            have HA := Lib.hid (At.start hN hrow hf 1 q x ⟨0, 0, ⟨#[]⟩⟩ ⟨0, 0, ⟨#[]⟩⟩)
            clear hN hrow hf
            go_wp2_with fail
            generalize ((wr.alloc (.cells #[.int .i64 1, .int .i64 q, .int .i64 x.f0, .int .i64 x.f1, .string x.f2] 30)).alloc (.cells #[.int .i64 0, .int .i64 0, .string ⟨#[]⟩] 28)).alloc (.cells #[.int .i64 0, .int .i64 0, .string ⟨#[]⟩] 28) = w4 at *
            generalize wr.heap.size = b at *
            have hT := now_send HA.out.now x (by omega)
            simp only [lv] at hT
            refine hT.mono ?_
            rintro e w5 ⟨rfl, v5, hN5, hm5⟩
            have hA5 := HA.out.move hN5 hm5
            obtain ⟨⟨o0, o1, o2, o3, o4⟩, ⟨y0, y1, y2⟩, ⟨z0, z1, z2⟩, ⟨fy0, fy1, fy2⟩, ⟨fz0, fz1, fz2⟩, hsz⟩ := hA5.box.facts
            have HO := Lib.hid (Kd.R_mono (ok' := fun _ => True) (row_R hA5.row.own) (fun _ _ => trivial))
            have HBl := Lib.hid hA5.now.below
            have HSz := Lib.hid hA5.now.size
            have HA5 := Lib.hid hA5
            clear HA hT hN5 hm5 hA5
            go_wp2_with (first | (at_builtin; refine Kd.R_append k28 (w0 := W) W.heap.size rfl (.tmp 54) (.tmp 57) 26 28 (.agg #[(.int .i64 0), (.int .i64 0), (.string ⟨#[]⟩)]) 32 rfl Try.underlying26 HI.out rfl (by decide) (by decide) _ xs x [.int .i64 x.f0, .int .i64 x.f1, .string x.f2] (fun _ => True) (fun _ => False) rfl rfl (k28_mkM _ _ _ x) (fun _ hk => hk.elim) (fun _ _ => trivial) HO.out HBl.out HSz.out (by omega) ?_; intro v6 w6 hR hB hG hat; have HA6 := Lib.hid (HA5.out.grown (Below.refl _ _) hG ⟨R_row hR⟩ hat); clear HO HBl HSz HA5 hR hB hG hat o0 o1 o2 o3 o4 y0 y1 y2 z0 z1 z2 fy0 fy1 fy2 fz0 fz1 fz2 hsz; obtain ⟨⟨o0, o1, o2, o3, o4⟩, ⟨y0, y1, y2⟩, ⟨z0, z1, z2⟩, ⟨fy0, fy1, fy2⟩, ⟨fz0, fz1, fz2⟩, hsz⟩ := HA6.out.box.facts; obtain ⟨A6, c6, rfl⟩ := Kd.R_slice (row_R HA6.out.row.own); have HA7 := Lib.hid (HA6.out.put_y ⟨0, 0, ⟨#[]⟩⟩)) | (go_at_call 14; refine (now_len HA7.out.now).mono ?_; rintro e w7 ⟨rfl, rfl⟩))
            go_roundw
            case rel =>
              have h7 := HA7.out.row
              have h8 := HA7.out.far
              rw [List.length_append, List.length_singleton] at h7 h8
              exact ⟨k + 1, _, _, by omega, by go_num, by rw [List.length_append]; simp; omega, HA7.out.now, h7, h8⟩
            case measure => simp [intOf]; omega
          by_cases hk2 : kd = 2
          · subst hk2
            have HA := Lib.hid (At.start hN hrow hf 2 q x ⟨0, 0, ⟨#[]⟩⟩ ⟨0, 0, ⟨#[]⟩⟩)
            clear hN hrow hf
            go_wp2_with fail
            generalize ((wr.alloc (.cells #[.int .i64 2, .int .i64 q, .int .i64 x.f0, .int .i64 x.f1, .string x.f2] 30)).alloc (.cells #[.int .i64 0, .int .i64 0, .string ⟨#[]⟩] 28)).alloc (.cells #[.int .i64 0, .int .i64 0, .string ⟨#[]⟩] 28) = w4 at *
            generalize wr.heap.size = b at *
            have hT := now_take_out HA.out.now q hout.out
            simp only [lv, z28] at hT
            refine hT.mono ?_
            rintro e w5 ⟨rfl, hb5⟩
            have hA5 := HA.out.next hb5
            clear hb5
            have HA7 := Lib.hid (hA5.put_z ⟨0, 0, ⟨#[]⟩⟩)
            obtain ⟨⟨o0, o1, o2, o3, o4⟩, ⟨y0, y1, y2⟩, ⟨z0, z1, z2⟩, ⟨fy0, fy1, fy2⟩, ⟨fz0, fz1, fz2⟩, hsz⟩ := hA5.box.facts
            clear HA hT hA5
            go_wp2_with (go_at_call 14; refine (now_len HA7.out.now).mono ?_; rintro e w7 ⟨rfl, rfl⟩)
            go_roundw
            case rel => exact ⟨k + 1, _, _, by omega, by go_num, by omega, HA7.out.now, HA7.out.row, HA7.out.far⟩
            case measure => simp [intOf]; omega
          by_cases hk3 : kd = 3
          · subst hk3
            have HA := Lib.hid (At.start hN hrow hf 3 q x ⟨0, 0, ⟨#[]⟩⟩ ⟨0, 0, ⟨#[]⟩⟩)
            clear hN hrow hf
            go_wp2_with fail
            generalize ((wr.alloc (.cells #[.int .i64 3, .int .i64 q, .int .i64 x.f0, .int .i64 x.f1, .string x.f2] 30)).alloc (.cells #[.int .i64 0, .int .i64 0, .string ⟨#[]⟩] 28)).alloc (.cells #[.int .i64 0, .int .i64 0, .string ⟨#[]⟩] 28) = w4 at *
            generalize wr.heap.size = b at *
            have hT := now_copy_out HA.out.now q hout.out
            simp only [lv, z28] at hT
            refine hT.mono ?_
            rintro e w5 ⟨rfl, hb5⟩
            have hA5 := HA.out.next hb5
            clear hb5
            have HA7 := Lib.hid (hA5.put_z ⟨0, 0, ⟨#[]⟩⟩)
            obtain ⟨⟨o0, o1, o2, o3, o4⟩, ⟨y0, y1, y2⟩, ⟨z0, z1, z2⟩, ⟨fy0, fy1, fy2⟩, ⟨fz0, fz1, fz2⟩, hsz⟩ := hA5.box.facts
            clear HA hT hA5
            go_wp2_with (go_at_call 14; refine (now_len HA7.out.now).mono ?_; rintro e w7 ⟨rfl, rfl⟩)
            go_roundw
            case rel => exact ⟨k + 1, _, _, by omega, by go_num, by omega, HA7.out.now, HA7.out.row, HA7.out.far⟩
            case measure => simp [intOf]; omega
          by_cases hk4 : kd = 4
          · subst hk4
            have HA := Lib.hid (At.start hN hrow hf 4 q x ⟨0, 0, ⟨#[]⟩⟩ ⟨0, 0, ⟨#[]⟩⟩)
            clear hN hrow hf
            go_wp2_with fail
            generalize ((wr.alloc (.cells #[.int .i64 4, .int .i64 q, .int .i64 x.f0, .int .i64 x.f1, .string x.f2] 30)).alloc (.cells #[.int .i64 0, .int .i64 0, .string ⟨#[]⟩] 28)).alloc (.cells #[.int .i64 0, .int .i64 0, .string ⟨#[]⟩] 28) = w4 at *
            generalize wr.heap.size = b at *
            have hT := now_lose_out HA.out.now q hout.out
            refine hT.mono ?_
            rintro e w5 ⟨rfl, hb5⟩
            have hA5 := HA.out.next hb5
            clear hb5
            have HA7 := Lib.hid (hA5.put_y ⟨0, 0, ⟨#[]⟩⟩)
            obtain ⟨⟨o0, o1, o2, o3, o4⟩, ⟨y0, y1, y2⟩, ⟨z0, z1, z2⟩, ⟨fy0, fy1, fy2⟩, ⟨fz0, fz1, fz2⟩, hsz⟩ := hA5.box.facts
            clear HA hT hA5
            go_wp2_with (go_at_call 14; refine (now_len HA7.out.now).mono ?_; rintro e w7 ⟨rfl, rfl⟩)
            go_roundw
            case rel => exact ⟨k + 1, _, _, by omega, by go_num, by omega, HA7.out.now, HA7.out.row, HA7.out.far⟩
            case measure => simp [intOf]; omega
          have n1 : (kd = 1) = False := eq_false hk1
          have m1 : (kd == 1) = false := beq_eq_false_iff_ne.mpr hk1
          have n2 : (kd = 2) = False := eq_false hk2
          have m2 : (kd == 2) = false := beq_eq_false_iff_ne.mpr hk2
          have n3 : (kd = 3) = False := eq_false hk3
          have m3 : (kd == 3) = false := beq_eq_false_iff_ne.mpr hk3
          have n4 : (kd = 4) = False := eq_false hk4
          have m4 : (kd == 4) = false := beq_eq_false_iff_ne.mpr hk4
          have HA7 := Lib.hid (At.start hN hrow hf kd q x ⟨0, 0, ⟨#[]⟩⟩ ⟨0, 0, ⟨#[]⟩⟩)
          clear hN hrow hf hk1 hk2 hk3 hk4
          go_wp2_with (go_at_call 14; refine (now_len HA7.out.now).mono ?_; rintro e w7 ⟨rfl, rfl⟩)
          go_roundw
          case rel => exact ⟨k + 1, _, _, by omega, by go_num, by omega, HA7.out.now, HA7.out.row, HA7.out.far⟩
          case measure => simp [intOf]; omega
    · obtain rfl : k = l.length := by omega
      have hbl := hN.below
      go_wp2_with fail
      go_ret
      exact ⟨rfl, hbl⟩
end Go.Proofs.Ytaooemnninnfcaa.Bag
