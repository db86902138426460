/- A codec in memory, reading: and the contracts of the functions that read bytes and numbers. -/
import Derived.Test.YtlcgkcmicklihaaBase
import Derived.Test.YtlcgkcmicklihaaPure
import Derived.Test.YtlcgkcmicklihaaBits
namespace Go.Proofs.Ytlcgkcmicklihaa.Wire
set_option linter.unusedVariables false
set_option linter.unusedSimpArgs false
open Go.RowKit Go.Proofs.YtlcgkcmicklihaaW.PrintWords Go.Proofs.YtlcgkcmicklihaaW.PrintLast Go.Proofs.YtlcgkcmicklihaaW.PrintMore

/-! ### What a call leaves alone -/
/-- W' is W but for new blocks and what was written into the blocks of S. -/
structure Fr (W W' : World) (S : Nat → Prop) : Prop where
  os : W'.os = W.os
  tape : W'.tape = W.tape
  output : W'.output = W.output
  size : W.heap.size ≤ W'.heap.size
  block : ∀ i, i < W.heap.size → ¬ S i → W'.heap[i]? = W.heap[i]?
section
variable {W W' W2 : World} {S S2 : Nat → Prop}
theorem Fr.refl (W : World) (S : Nat → Prop) : Fr W W S := ⟨rfl, rfl, rfl, Nat.le_refl _, fun _ _ _ => rfl⟩
theorem Fr.trans (h : Fr W W' S) (k : Fr W' W2 S2) (hs : ∀ i, S2 i → S i ∨ W.heap.size ≤ i) : Fr W W2 S :=
  ⟨k.os.trans h.os, k.tape.trans h.tape, k.output.trans h.output, Nat.le_trans h.size k.size, fun i hi hn =>
    (k.block i (Nat.lt_of_lt_of_le hi h.size) (fun h2 => (hs i h2).elim hn (fun h3 => by omega))).trans (h.block i hi hn)⟩
theorem Fr.mono (h : Fr W W' S) (hs : ∀ i, S i → S2 i) : Fr W W' S2 := ⟨h.os, h.tape, h.output, h.size, fun i hi hn => h.block i hi (fun h2 => hn (hs i h2))⟩
theorem Fr.of_below (h : Below W.heap.size W W') (S : Nat → Prop) : Fr W W' S := ⟨h.os, h.tape, h.output, h.size, fun i hi _ => h.block i hi⟩
theorem Fr.below (h : Fr W W' S) (k : Below W'.heap.size W' W2) : Fr W W2 S := h.trans (Fr.of_below k (fun _ => False)) (fun _ h => h.elim)
theorem Fr.of_grown {row : Option Nat} (h : W.grownBy W' row) : Fr W W' (fun k => row = some k) := ⟨h.os, h.tape, h.output, h.size, fun i hi hn => h.block i hi (fun he => hn he.symm)⟩
theorem Fr.alloc (h : Fr W W' S) (o : Obj) : Fr W (W'.alloc o) S := h.below ((Below.refl _ _).alloc (Nat.le_refl _) o)
theorem Fr.drew (h : Fr W W' S) : Fr W W'.drew S := ⟨h.os, h.tape, h.output, h.size, h.block⟩
theorem Fr.drewN (h : Fr W W' S) (n : Nat) : Fr W (W'.drewN n) S := h.trans (Fr.of_below (pw_below_drewN (Below.refl _ _) n) (fun _ => False)) (fun _ h => h.elim)
theorem Fr.setCell (h : Fr W W' S) {p : Addr} (hp : S p.block ∨ W.heap.size ≤ p.block) (u : Value) : Fr W (W'.setCell p u) S :=
  h.trans (S2 := fun k => k = p.block) ⟨rfl, rfl, rfl, by simp [World.setCell], fun i _ hn => Below.heap_setCell W' p u i hn⟩ (fun k hk => by rw [hk]; exact hp)
theorem Fr.to_below {B : Nat} (h : Fr W W' S) (hS : ∀ k, S k → B ≤ k) (hB : B ≤ W.heap.size) : Below B W W' :=
  ⟨h.os, h.tape, h.output, h.size, fun i hi => h.block i (by omega) (fun hs => by have := hS i hs; omega)⟩
theorem Fr.blk {g : Nat} {o : Obj} (h : Fr W W' S) (hb : W.heap[g]? = some o) (hn : ¬ S g) : W'.heap[g]? = some o := (h.block g (blk_lt hb) hn).trans hb
theorem Fr.own {base e size n : Nat} {v : Value} {xs : List Value} (h : Fr W W' S) (ho : W.ownsRow base e size v n xs) (hn : ∀ k, v.ownBlock = some k → ¬ S k) : W'.ownsRow base e size v n xs :=
  own_move ho (fun k hk => h.block k (ho.lt k hk).2 (hn k hk))
end

/-! ### A codec that reads -/
/-- At block g a codec that reads st's bytes, which lie in block r from off on. -/
structure Rd (g r off cap : Nat) (st : St) (w : World) : Prop where
  blk : w.heap[g]? = some (.cells #[.slice (some ⟨r, off, none⟩) st.bs.length cap, .bool true, .bool st.bad] 133 (0, 0))
  ne : g ≠ r
  lt : r < w.heap.size
  le : st.bs.length ≤ cap
  top : cap ≤ 9223372036854775807
  at_ : ∀ j (hj : j < st.bs.length), w.cell? ⟨r, off + j, none⟩ = some (.int .u8 ((st.bs[j]).toNat : Int))
section
variable {g r off cap : Nat} {st : St} {w w' : World}
theorem cell_of_blk {w w' : World} {a : Addr} (h : w'.heap[a.block]? = w.heap[a.block]?) : w'.cell? a = w.cell? a := by
  simp only [World.cell?, h]
theorem Rd.fr {S : Nat → Prop} (h : Rd g r off cap st w) (f : Fr w w' S) (hg : ¬ S g) (hr : ¬ S r) : Rd g r off cap st w' :=
  ⟨f.blk h.blk hg, h.ne, Nat.lt_of_lt_of_le h.lt f.size, h.le, h.top, fun j hj => (cell_of_blk (f.block r h.lt hr)).trans (h.at_ j hj)⟩
theorem Rd.next (h : Rd g r off cap st w) (hb : Below w.heap.size w w') : Rd g r off cap st w' := h.fr (Fr.of_below hb (fun _ => False)) (fun h => h) (fun h => h)
theorem Rd.glt (h : Rd g r off cap st w) : g < w.heap.size := blk_lt h.blk
theorem Rd.c0 (h : Rd g r off cap st w) : w.cell? ⟨g, 0, none⟩ = some (.slice (some ⟨r, off, none⟩) st.bs.length cap) := (blk_cell h.blk 0).trans rfl
theorem Rd.c1 (h : Rd g r off cap st w) : w.cell? ⟨g, 1, none⟩ = some (.bool true) := (blk_cell h.blk 1).trans rfl
theorem Rd.c2 (h : Rd g r off cap st w) : w.cell? ⟨g, 2, none⟩ = some (.bool st.bad) := (blk_cell h.blk 2).trans rfl
theorem Rd.free (h : Rd g r off cap st w) (j : Nat) : w.frozen? ⟨g, j, none⟩ = false := blk_frozen h.blk j
/-- The bad mark is set. -/
theorem Rd.mark (h : Rd g r off cap st w) (b : Bool) : Rd g r off cap ⟨st.bs, b⟩ (w.setCell ⟨g, 2, none⟩ (.bool b)) := by
  have f : Fr w (w.setCell ⟨g, 2, none⟩ (.bool b)) (fun k => k = g) := (Fr.refl w (fun k => k = g)).setCell (p := ⟨g, 2, none⟩) (.inl rfl) _
  exact ⟨blk_put h.blk 2 _ rfl, h.ne, Nat.lt_of_lt_of_le h.lt f.size, h.le, h.top, fun j hj => (cell_of_blk (f.block r h.lt (fun he => h.ne he.symm))).trans (h.at_ j hj)⟩
/-- All bytes are done with, and no room behind them: the address stays. -/
theorem Rd.skip_all (h : Rd g r off cap st w) (n : Nat) (hn : n = st.bs.length) (hc : cap = n) : Rd g r off 0 ⟨st.bs.drop n, st.bad⟩ (w.setCell ⟨g, 0, none⟩ (.slice (some ⟨r, off, none⟩) (st.bs.length - n) 0)) := by
  have f : Fr w (w.setCell ⟨g, 0, none⟩ (.slice (some ⟨r, off, none⟩) (st.bs.length - n) 0)) (fun k => k = g) := (Fr.refl w (fun k => k = g)).setCell (p := ⟨g, 0, none⟩) (.inl rfl) _
  refine ⟨blk_put h.blk 0 _ (by simp), h.ne, Nat.lt_of_lt_of_le h.lt f.size, by simp; omega, by omega, fun j hj => ?_⟩
  simp only [List.length_drop] at hj
  omega
/-- The first n bytes are done with. -/
theorem Rd.skip (h : Rd g r off cap st w) (n : Nat) (hn : n ≤ st.bs.length) : Rd g r (off + n) (cap - n) ⟨st.bs.drop n, st.bad⟩ (w.setCell ⟨g, 0, none⟩ (.slice (some ⟨r, off + n, none⟩) (st.bs.length - n) (cap - n))) := by
  have f : Fr w (w.setCell ⟨g, 0, none⟩ (.slice (some ⟨r, off + n, none⟩) (st.bs.length - n) (cap - n))) (fun k => k = g) := (Fr.refl w (fun k => k = g)).setCell (p := ⟨g, 0, none⟩) (.inl rfl) _
  have hle := h.le
  have htop := h.top
  refine ⟨blk_put h.blk 0 _ (by simp), h.ne, Nat.lt_of_lt_of_le h.lt f.size, by simp; omega, by omega, fun j hj => ?_⟩
  simp only [List.length_drop] at hj
  rw [cell_of_blk (f.block r h.lt (fun he => h.ne he.symm))]
  have := h.at_ (n + j) (by omega)
  simp only [List.getElem_drop]
  rw [show off + n + j = off + (n + j) by omega]
  exact this
/-- A byte, if there is one. -/
def rdByte (st : St) : Nat × St := match st.bs with
  | [] => (0, ⟨[], true⟩)
  | x :: rest => (x.toNat, ⟨rest, st.bad⟩)
set_option maxRecDepth 100000 in
theorem byte_calls (h : Rd g r off cap st w) : Calls Try.prog 94 #[.pointer (some ⟨g, 0, none⟩)] w fun e w' => e = .returned (.int .u8 ((rdByte st).1 : Int)) ∧ (∃ off' cap', Rd g r off' cap' (rdByte st).2 w') ∧ Fr w w' (fun k => k = g) := by
  have c0 := h.c0
  have c2 := h.c2
  have f0 := h.free 0
  have f2 := h.free 2
  have htop := h.top
  have hle := h.le
  have H := Lib.hid h
  obtain ⟨bs, bad⟩ := st
  cases bs with
  | nil =>
    simp only [List.length_nil] at c0
    clear h
    go_enter Try.func94, Try.ntmps94
    go_wp2_with fail
    go_ret
    exact ⟨rfl, ⟨off, cap, H.out.mark true⟩, (Fr.refl w (fun k => k = g)).setCell (p := ⟨g, 2, none⟩) (.inl rfl) _⟩
  | cons x rest =>
    have a0 := h.at_ 0 (by simp)
    simp only [List.length_cons, List.getElem_cons_zero, Nat.add_zero] at c0 a0 hle
    have d0 : rest.length + 1 ≤ 9223372036854775807 := Nat.le_trans hle htop
    have hsk := Lib.hid (h.skip 1 (by simp))
    clear h
    go_enter Try.func94, Try.ntmps94
    by_cases hc : cap = 1
    · subst hc
      obtain rfl : rest = [] := List.eq_nil_of_length_eq_zero (by omega)
      have hsa := Lib.hid (H.out.skip_all 1 rfl rfl)
      go_wp2_with fail
      go_ret
      exact ⟨rfl, ⟨off, 0, hsa.out⟩, (Fr.refl w (fun k => k = g)).setCell (p := ⟨g, 0, none⟩) (.inl rfl) _⟩
    · have hc2 : 1 < cap := by omega
      go_wp2_with fail
      all_goals
        go_ret
        refine ⟨rfl, ⟨off + 1, cap - 1, ?_⟩, (Fr.refl w (fun k => k = g)).setCell (p := ⟨g, 0, none⟩) (.inl rfl) _⟩
        exact hsk.out
end
end Go.Proofs.Ytlcgkcmicklihaa.Wire
