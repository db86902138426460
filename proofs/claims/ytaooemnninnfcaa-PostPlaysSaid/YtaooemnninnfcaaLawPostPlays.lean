/- The law PostPlays: for every script (read within the form's reach) the call returns true and the argument reads as before. -/
import Derived.Test.YtaooemnninnfcaaOpen
import Derived.Test.YtaooemnninnfcaaPlays
namespace Go.Proofs.Ytaooemnninnfcaa.postPlays
open Go.ChangeShapes Go.WideShapes Go.ChangeAt Go.RowKit
set_option linter.unusedVariables false
open Go.Proofs.YtaooemnninnfcaaW.PrintWords Go.Proofs.Ytaooemnninnfcaa.PAll in
theorem op_K {H : Type} {enc : TypeId × Value → H} {w : World} {base : Nat} {spare : Nat → Bool} {held : Bool} {n : Nat} {cs : List Value} {y : DataW H × List MemPlace} (h : DataW.trod enc Try.prog w base spare held n 30 cs = some y) : ∃ x : Int × Int × S28, Bag.kOp.K w x cs := by
  obtain ⟨ys, n', hn', hy, hlen, hyl, hf⟩ := DataW.trod_struct Try.underlying30 h
  have hC : Try.prog.cellsOf 30 = 5 := by kernel_rfl
  rw [hC] at hlen
  match cs, hlen with
  | [a, b, c, d, e], _ =>
    have h0 := hf 0 _ rfl
    have h1 := hf 1 _ rfl
    have h2 := hf 2 _ rfl
    obtain ⟨y0, e0⟩ : ∃ y0, ys[0]? = some y0 := ⟨_, List.getElem?_eq_getElem (by rw [hyl]; decide)⟩
    obtain ⟨y1, e1⟩ : ∃ y0, ys[1]? = some y0 := ⟨_, List.getElem?_eq_getElem (by rw [hyl]; decide)⟩
    obtain ⟨y2, e2⟩ : ∃ y0, ys[2]? = some y0 := ⟨_, List.getElem?_eq_getElem (by rw [hyl]; decide)⟩
    have c3 : Try.prog.cellsOf 3 = 1 := by kernel_rfl
    have c28 : Try.prog.cellsOf 28 = 3 := by kernel_rfl
    rw [e0] at h0
    rw [e1] at h1
    rw [e2] at h2
    have g0 : DataW.trod enc Try.prog w base spare held n' 3 (([a, b, c, d, e].drop 0).take (Try.prog.cellsOf 3)) = some y0 := h0
    have g1 : DataW.trod enc Try.prog w base spare held n' 3 (([a, b, c, d, e].drop 1).take (Try.prog.cellsOf 3)) = some y1 := h1
    have g2 : DataW.trod enc Try.prog w base spare held n' 28 (([a, b, c, d, e].drop 2).take (Try.prog.cellsOf 28)) = some y2 := h2
    rw [c3] at g0 g1
    rw [c28] at g2
    obtain ⟨n0, q0, _⟩ := DataW.trod_int Try.underlying3 g0
    obtain ⟨n1, q1, _⟩ := DataW.trod_int Try.underlying3 g1
    obtain ⟨x, hx⟩ := Opened.letter_K g2
    have r0 : a = .int .i64 n0 := by simpa using q0
    have r1 : b = .int .i64 n1 := by simpa using q1
    subst r0 r1
    exact ⟨(n0, n1, x), [.int .i64 n0], [.int .i64 n1, c, d, e], rfl, rfl, [.int .i64 n1], [c, d, e], rfl, rfl, hx⟩
open Go.Proofs.YtaooemnninnfcaaW.PrintWords in
theorem ops {H : Type} {enc : TypeId × Value → H} {W : World} {a : Option Addr} {len cap : Nat} {d : DataW H} {ps : List MemPlace}
    (h : DataW.Trod enc Try.prog W 0 (fun _ => true) true 22 (.slice a len cap) d ps) : ∃ l : List (Int × Int × PAll.S28), l.length = len ∧ len ≤ cap ∧ Kd.C Bag.kOp W a l.length l := by
  obtain ⟨fuel, hf⟩ := h
  obtain ⟨A, n, c, l, hcs, h1, h2, h3, h4⟩ := Opened.opened_slice Bag.kOp Try.underlying22 (by kernel_rfl) (fun n cs y hy => op_K hy) hf
  simp [Value.cells] at hcs
  obtain ⟨rfl, rfl, rfl⟩ := hcs
  exact ⟨l, h1, h2, h4⟩
open Go.Proofs.YtaooemnninnfcaaW.PrintWords in
theorem walk (A : Option Addr) (l : List (Int × Int × PAll.S28)) (c : Nat) (W : World) (h : Kd.C Bag.kOp W A l.length l) (hc : l.length ≤ c) :
    Calls Try.prog 3 #[.slice A l.length c] W fun e w' => e = .returned (.bool true) ∧ Below W.heap.size W w' := by
  by_cases hl : 400 < l.length
  · exact Bag.plays_short A l c W (decide_eq_true (by omega))
  · exact Bag.plays_walk A l c W h hc (by omega)
set_option maxRecDepth 100000 in
theorem lifted (os : Os) (started : os.Started) (H : Type) (enc : TypeId × Value → H) :
    ReturnsInHanded {} Try.checked os 3 .any (Rows.postPlaysSpec.pre6 enc Try.prog Try.f3 Rows.postPlaysRow.domain false) (Rows.postPlaysSpec.post enc Try.prog Try.f3 false true false false) := by
  refine returnsInHanded_of_change (C := Try.checked) Opened.own started (by kernel_rfl) Try.func3
    (ChangeSpec.witness6 (enc := enc) (C := Try.checked) false ⟨#[], #[.slice none 0 0], []⟩ 8 (by kernel_rfl) (by kernel_rfl) (by kernel_rfl) (by kernel_rfl)) ?_
  intro W base args ds gs before hval0 hW _ _
  have hval : ∀ (j : Nat) t v, Try.f3.params[j]? = some t → args[j]? = some v → Value.okWide Try.prog W .any base t v := hval0
  have hW' := hW
  obtain ⟨p, q, hA0, hV, rfl, hfz, hnd⟩ := hW
  have hA : DataW.TrodAll enc Try.prog W 0 (fun _ => true) true Try.f3.params.toList args.toList ds p := hA0
  rw [Try.params3] at hA hval
  obtain ⟨v0, vs0, d0, ds0, p0, q0, hargs, rfl, rfl, h0, r0⟩ := trodAll_cons hA
  obtain ⟨rfl, rfl, rfl⟩ := trodAll_nil r0
  obtain rfl : args = #[v0] := by cases args; simp_all
  obtain ⟨rfl, rfl⟩ := trodVars_none hV
  have k0 := h0
  have lt0 : ∀ x ∈ p0, x.block < W.heap.size := by obtain ⟨m, hm⟩ := k0; exact DataW.trod_lt m _ _ _ hm
  obtain ⟨a0, len0, cap0, rfl⟩ := okWide_slice Try.underlying22 (hval 0 22 v0 rfl rfl)
  obtain ⟨l, rfl, hlc, hC⟩ := ops h0
  clear hA0 hval0
  refine (walk a0 l cap0 W hC hlc).mono fun e W' ⟨he, bel⟩ => ?_
  subst he
  exact ⟨_, rfl, _, _, _, [], _, [], hW', trodAll_mk1 (shut_bool Try.underlying4 _), (trodAll_cons_mk (Below.trod Opened.laidOut (by kernel_rfl) (of_decide_eq_true (by kernel_rfl)) k0 bel lt0) trodAll_mk0), rfl, bel.frame _, fun h => by cases h⟩
theorem over : Rows.postPlaysRow.holds Try.pinned (OpenSpec.ofChange Rows.postPlaysSpec) :=
  OpenClaim.holds_of_wide 3 Try.f3 rfl rfl rfl rfl rfl rfl rfl ⟨rfl, rfl, rfl, rfl, rfl⟩ rfl rfl rfl rfl rfl (by kernel_rfl) Try.func3 (by kernel_rfl)
    (of_decide_eq_true (by kernel_rfl)) (by unfold Func.isWrapper; first | (rw [if_pos (by decide +kernel)]; kernel_rfl) | (rw [if_neg (by decide +kernel)]; exact ⟨rfl, rfl⟩))
    (fun os started H enc _ => lifted os started H enc)
end Go.Proofs.Ytaooemnninnfcaa.postPlays
namespace Go.Proofs.Ytaooemnninnfcaa
/-- The row, under a short name, for the claim. -/
theorem postPlays_holds : Rows.PostPlaysSaid := postPlays.over
#print axioms postPlays_holds
end Go.Proofs.Ytaooemnninnfcaa
