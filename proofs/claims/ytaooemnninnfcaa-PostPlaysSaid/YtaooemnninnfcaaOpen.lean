/- Arguments of the laws over post: a letter, a slice of letters, as lists. -/
import Derived.Test.YtaooemnninnfcaaRows
import Derived.Test.YtaooemnninnfcaaCopies
import Derived.WalkKit
import Derived.ProofKit
import Derived.OpenShut
import Derived.ShutString
import Derived.ChangeOld
import Derived.Below
import Derived.Carry
import Derived.Lib.SmallJoins
import Derived.Deep.Slices
namespace Go.Proofs.Ytaooemnninnfcaa.Opened
open Go.ChangeShapes Go.WideShapes Go.ChangeAt Go.RowKit Go.Deep Go.Proofs.Ytaooemnninnfcaa.PAll Go.Proofs.YtaooemnninnfcaaW.PrintWords
set_option linter.unusedVariables false
theorem own : ownKnob Try.prog.godebug = none := by kernel_rfl
theorem laidOut : laidOutB Try.prog = true := by kernel_rfl
theorem choose_list {α : Type} {R : Nat → α → Prop} : ∀ n : Nat, (∀ i, i < n → ∃ x, R i x) → ∃ l : List α, l.length = n ∧ ∀ i x, l[i]? = some x → R i x
  | 0, _ => ⟨[], rfl, fun i x h => by simp at h⟩
  | n + 1, h => by
    obtain ⟨l, hl, hr⟩ := choose_list n (fun i hi => h i (by omega))
    obtain ⟨x, hx⟩ := h n (by omega)
    refine ⟨l ++ [x], by rw [List.length_append, hl]; rfl, fun i y hy => ?_⟩
    by_cases hi : i < n
    · rw [List.getElem?_append_left (by omega)] at hy
      exact hr i y hy
    · rw [List.getElem?_append_right (by omega), hl] at hy
      have hi2 : i - n = 0 := by
        rcases Nat.lt_or_ge (i - n) 1 with h1 | h1
        · omega
        · rw [List.getElem?_eq_none (by simpa using h1)] at hy
          cases hy
      rw [hi2] at hy
      have : x = y := by simpa using hy
      subst this
      have : i = n := by omega
      subst this
      exact hx
section
variable {H : Type} {enc : TypeId × Value → H} {P : Program} {w : World} {base : Nat} {spare : Nat → Bool} {held : Bool}
/-- A slice that came in, as a list of what its elements read as. -/
theorem opened_slice {α : Type} (d : Kd α) {t e : TypeId} {fuel : Nat} {cs : List Value} {x : DataW H × List MemPlace} (ht : P.underlying t = some (.slice e)) (hC : P.cellsOf e = d.sz)
    (hel : ∀ n cs y, DataW.trod enc P w base spare held n e cs = some y → ∃ x, d.K w x cs) (h : DataW.trod enc P w base spare held fuel t cs = some x) :
    ∃ (A : Option Addr) (len cap : Nat) (l : List α), cs = [.slice A len cap] ∧ l.length = len ∧ len ≤ cap ∧ cap ≤ maxLen ∧ d.C w A l.length l := by
  rcases open_slice ht h with ⟨rfl, _⟩ | ⟨a, len, cap, m, n, D, Pl, rfl, hb, hl, hm, hmm, hx, hi⟩
  · exact ⟨none, 0, 0, [], rfl, rfl, Nat.le_refl _, by unfold maxLen; omega, rfl, by simp, fun h => by simp at h⟩
  · have hlm : len ≤ m := by rw [hmm]; split <;> omega
    obtain ⟨l, hll, hlr⟩ := choose_list (R := fun i x => ∃ c, c.length = d.sz ∧ d.K w x c ∧ ∀ j u, c[j]? = some u → w.cell? (a.add (i * d.sz + j)) = some u) len (fun i hi2 => by
      obtain ⟨cs', hc, ht'⟩ := hi i (by omega)
      rw [hC] at hc
      obtain ⟨x, hx⟩ := hel _ _ _ ht'
      obtain ⟨_, hcl, hat⟩ := World.cells?_some hc
      refine ⟨x, cs', hcl, hx, fun j u hj => ?_⟩
      have hjl : j < d.sz := by rw [← hcl]; exact (List.getElem?_eq_some_iff.1 hj).1
      rw [← Go.Deep.add_add, hat j hjl, hj])
    refine ⟨some a, len, cap, l, rfl, hll, hl, hm, rfl, by unfold maxLen at hm; omega, fun _ => ⟨a, rfl, fun j p hj => hlr j p hj⟩⟩
end
section
variable {H : Type} {enc : TypeId × Value → H} {w : World} {base : Nat} {spare : Nat → Bool} {held : Bool}
theorem letter_K {n : Nat} {cs : List Value} {y : DataW H × List MemPlace} (h : DataW.trod enc Try.prog w base spare held n 28 cs = some y) : ∃ x : S28, k28.K w x cs := by
  obtain ⟨ys, n', hn', hy, hlen, hyl, hf⟩ := DataW.trod_struct Try.underlying28 h
  have hC : Try.prog.cellsOf 28 = 3 := by kernel_rfl
  rw [hC] at hlen
  match cs, hlen with
  | [a, b, c], _ =>
    have h0 := hf 0 _ rfl
    have h1 := hf 1 _ rfl
    have h2 := hf 2 _ rfl
    obtain ⟨y0, e0⟩ : ∃ y0, ys[0]? = some y0 := ⟨_, List.getElem?_eq_getElem (by rw [hyl]; decide)⟩
    obtain ⟨y1, e1⟩ : ∃ y0, ys[1]? = some y0 := ⟨_, List.getElem?_eq_getElem (by rw [hyl]; decide)⟩
    obtain ⟨y2, e2⟩ : ∃ y0, ys[2]? = some y0 := ⟨_, List.getElem?_eq_getElem (by rw [hyl]; decide)⟩
    have c3 : Try.prog.cellsOf 3 = 1 := by kernel_rfl
    have c9 : Try.prog.cellsOf 9 = 1 := by kernel_rfl
    rw [e0] at h0
    rw [e1] at h1
    rw [e2] at h2
    have g0 : DataW.trod enc Try.prog w base spare held n' 3 (([a, b, c].drop 0).take (Try.prog.cellsOf 3)) = some y0 := h0
    have g1 : DataW.trod enc Try.prog w base spare held n' 3 (([a, b, c].drop 1).take (Try.prog.cellsOf 3)) = some y1 := h1
    have g2 : DataW.trod enc Try.prog w base spare held n' 9 (([a, b, c].drop 2).take (Try.prog.cellsOf 9)) = some y2 := h2
    rw [c3] at g0 g1
    rw [c9] at g2
    obtain ⟨n0, q0, _⟩ := DataW.trod_int Try.underlying3 g0
    obtain ⟨n1, q1, _⟩ := DataW.trod_int Try.underlying3 g1
    obtain ⟨s, q2, _⟩ := DataW.trod_string Try.underlying9 g2
    have r0 : a = .int .i64 n0 := by simpa using q0
    have r1 : b = .int .i64 n1 := by simpa using q1
    have r2 : c = .string s := by simpa using q2
    subst r0 r1 r2
    exact ⟨⟨n0, n1, s⟩, k28_mk w ⟨n0, n1, s⟩⟩
end
/-- A slice of letters that came in. -/
theorem letters {H : Type} {enc : TypeId × Value → H} {W : World} {a : Option Addr} {len cap : Nat} {d : DataW H} {ps : List MemPlace}
    (h : DataW.Trod enc Try.prog W 0 (fun _ => true) true 26 (.slice a len cap) d ps) :
    ∃ l : List S28, l.length = len ∧ len ≤ cap ∧ cap ≤ maxLen ∧ Bag.Came W a l := by
  obtain ⟨fuel, hf⟩ := h
  obtain ⟨A, n, c, l, hcs, h1, h2, h3, h4⟩ := opened_slice k28 Try.underlying26 (by kernel_rfl) (fun n cs y hy => letter_K hy) hf
  simp [Value.cells] at hcs
  obtain ⟨rfl, rfl, rfl⟩ := hcs
  exact ⟨l, h1, h2, h3, h4⟩
end Go.Proofs.Ytaooemnninnfcaa.Opened
