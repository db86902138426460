/- Arguments of the laws over clocks: a slice of pairs, as a list. -/
import Derived.Test.YtkpigklcbigfdaaRows
import Derived.Test.YtkpigklcbigfdaaClk
import Derived.WalkKit
import Derived.ProofKit
import Derived.OpenShut
import Derived.ChangeOld
import Derived.Below
import Derived.Carry
import Derived.Lib.SmallJoins
import Derived.Deep.Slices
namespace Go.Proofs.Ytkpigklcbigfdaa.Opened
open Go.ChangeShapes Go.WideShapes Go.ChangeAt Go.RowKit Go.Deep Go.Proofs.YtkpigklcbigfdaaW.PrintWords
set_option linter.unusedVariables false
theorem own : ownKnob Try.prog.godebug = none := by kernel_rfl
theorem laidOut : laidOutB Try.prog = true := by kernel_rfl
theorem choose_list {α : Type} {R : Nat → α → Prop} : ∀ n : Nat, (∀ i, i < n → ∃ x, R i x) → ∃ l : List α, l.length = n ∧ ∀ i x, l[i]? = some x → R i x
  | 0, _ => ⟨[], rfl, fun i x h => by simp at h⟩
  | n + 1, h => by
    obtain ⟨l, hl, hr⟩ := choose_list n (fun i hi => h i (by omega))
    obtain ⟨x, hx⟩ := h n (by omega)
    refine ⟨l ++ [x], by rw [List.length_append, hl]; rfl, fun i y hy => ?_⟩
    by_cases hi : i < n
    · rw [List.getElem?_append_left (by omega)] at hy
      exact hr i y hy
    · rw [List.getElem?_append_right (by omega), hl] at hy
      have hi2 : i - n = 0 := by
        rcases Nat.lt_or_ge (i - n) 1 with h1 | h1
        · omega
        · rw [List.getElem?_eq_none (by simpa using h1)] at hy
          cases hy
      rw [hi2] at hy
      have : x = y := by simpa using hy
      subst this
      have : i = n := by omega
      subst this
      exact hx
section
variable {H : Type} {enc : TypeId × Value → H} {P : Program} {w : World} {base : Nat} {spare : Nat → Bool} {held : Bool}
/-- A slice that came in, as a list of what its elements read as. -/
theorem opened_slice {α : Type} (d : Kd α) {t e : TypeId} {fuel : Nat} {cs : List Value} {x : DataW H × List MemPlace} (ht : P.underlying t = some (.slice e)) (hC : P.cellsOf e = d.sz)
    (hel : ∀ n cs y, DataW.trod enc P w base spare held n e cs = some y → ∃ x, d.K w x cs) (h : DataW.trod enc P w base spare held fuel t cs = some x) :
    ∃ (A : Option Addr) (len cap : Nat) (l : List α), cs = [.slice A len cap] ∧ l.length = len ∧ len ≤ cap ∧ cap ≤ maxLen ∧ d.C w A l.length l := by
  rcases open_slice ht h with ⟨rfl, _⟩ | ⟨a, len, cap, m, n, D, Pl, rfl, hb, hl, hm, hmm, hx, hi⟩
  · exact ⟨none, 0, 0, [], rfl, rfl, Nat.le_refl _, by unfold maxLen; omega, rfl, by simp, fun h => by simp at h⟩
  · have hlm : len ≤ m := by rw [hmm]; split <;> omega
    obtain ⟨l, hll, hlr⟩ := choose_list (R := fun i x => ∃ c, c.length = d.sz ∧ d.K w x c ∧ ∀ j u, c[j]? = some u → w.cell? (a.add (i * d.sz + j)) = some u) len (fun i hi2 => by
      obtain ⟨cs', hc, ht'⟩ := hi i (by omega)
      rw [hC] at hc
      obtain ⟨x, hx⟩ := hel _ _ _ ht'
      obtain ⟨_, hcl, hat⟩ := World.cells?_some hc
      refine ⟨x, cs', hcl, hx, fun j u hj => ?_⟩
      have hjl : j < d.sz := by rw [← hcl]; exact (List.getElem?_eq_some_iff.1 hj).1
      rw [← Go.Deep.add_add, hat j hjl, hj])
    refine ⟨some a, len, cap, l, rfl, hll, hl, hm, rfl, by unfold maxLen at hm; omega, fun _ => ⟨a, rfl, fun j p hj => hlr j p hj⟩⟩
end
/-- A tick: the clock, and how far. -/
def kTick : Kd (Int × Int) := Kd.pair (Kd.int .i64) (Kd.int .i64)
theorem kTick_open {w : World} {x : Int × Int} {cs : List Value} (h : kTick.K w x cs) : cs = [.int .i64 x.1, .int .i64 x.2] := by
  obtain ⟨_, _, rfl, rfl, rfl⟩ := h
  rfl
theorem tick_at {W w : World} {A : Option Addr} {l : List (Int × Int)} (h : Kd.C kTick W A l.length l) (hb : Below W.heap.size W w) (i : Nat) (hi : i < l.length) :
    ∃ ad, A = some ad ∧ w.cell? (ad.add (i * 2)) = some (.int .i64 (l[i]).1) ∧ w.cell? ⟨(ad.add (i * 2)).block, (ad.add (i * 2)).off + 1, none⟩ = some (.int .i64 (l[i]).2) := by
  obtain ⟨ad, c, e, _, hK, hc0⟩ := Kd.C_get h (0, 0) (i : Int) (by omega) (by omega)
  have hg : l.getD ((i : Int).toNat) (0, 0) = l[i] := by
    rw [Int.toNat_natCast, List.getD_eq_getElem?_getD, List.getElem?_eq_getElem hi]
    rfl
  rw [hg] at hK
  have hc : ∀ j u, c[j]? = some u → w.cell? (ad.add (i * 2 + j)) = some u := fun j u hj => by
    have h1 := hc0 j u hj
    exact (hb.cell (World.block_lt_of_cell? W _ h1)).trans h1
  obtain rfl := kTick_open hK
  exact ⟨ad, e, hc 0 _ rfl, by rw [← add_field _ _ 1 (by omega)]; exact hc 1 _ rfl⟩
section
variable {H : Type} {enc : TypeId × Value → H} {w : World} {base : Nat} {spare : Nat → Bool} {held : Bool}
theorem tick_K {n : Nat} {cs : List Value} {y : DataW H × List MemPlace} (h : DataW.trod enc Try.prog w base spare held n 29 cs = some y) : ∃ x : Int × Int, kTick.K w x cs := by
  obtain ⟨ys, m, _, _, hlen, hyl, hf⟩ := DataW.trod_array Try.underlying29 h
  have hC : Try.prog.cellsOf 29 = 2 := by kernel_rfl
  have c3 : Try.prog.cellsOf 3 = 1 := by kernel_rfl
  rw [hC] at hlen
  rw [c3] at hf
  match cs, hlen with
  | [a, b], _ =>
    have h0 := hf 0 (by decide)
    have h1 := hf 1 (by decide)
    obtain ⟨y0, e0⟩ : ∃ y0, ys[0]? = some y0 := ⟨_, List.getElem?_eq_getElem (by rw [hyl]; decide)⟩
    obtain ⟨y1, e1⟩ : ∃ y0, ys[1]? = some y0 := ⟨_, List.getElem?_eq_getElem (by rw [hyl]; decide)⟩
    rw [e0] at h0
    rw [e1] at h1
    obtain ⟨n0, q0, _⟩ := DataW.trod_int Try.underlying3 h0
    obtain ⟨n1, q1, _⟩ := DataW.trod_int Try.underlying3 h1
    have r0 : a = .int .i64 n0 := by simpa using q0
    have r1 : b = .int .i64 n1 := by simpa using q1
    subst r0 r1
    exact ⟨(n0, n1), [.int .i64 n0], [.int .i64 n1], rfl, rfl, rfl⟩
end
/-- A slice of ticks that came in. -/
theorem ticks {H : Type} {enc : TypeId × Value → H} {W : World} {a : Option Addr} {len cap : Nat} {d : DataW H} {ps : List MemPlace}
    (h : DataW.Trod enc Try.prog W 0 (fun _ => true) true 22 (.slice a len cap) d ps) :
    ∃ l : List (Int × Int), l.length = len ∧ len ≤ cap ∧ cap ≤ maxLen ∧ Kd.C kTick W a l.length l := by
  obtain ⟨fuel, hf⟩ := h
  obtain ⟨A, n, c, l, hcs, h1, h2, h3, h4⟩ := opened_slice kTick Try.underlying22 (by kernel_rfl) (fun n cs y hy => tick_K hy) hf
  simp [Value.cells] at hcs
  obtain ⟨rfl, rfl, rfl⟩ := hcs
  exact ⟨l, h1, h2, h3, h4⟩
end Go.Proofs.Ytkpigklcbigfdaa.Opened
