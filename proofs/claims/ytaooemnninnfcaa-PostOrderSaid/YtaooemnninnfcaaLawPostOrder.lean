/- The law PostOrder: for every list of letters and all picks (strings and slices of at most 2^47 - 4096 bytes, as the form reads them) the call returns true and the arguments read as before. -/
import Derived.Test.YtaooemnninnfcaaOpen
import Derived.Test.YtaooemnninnfcaaOrder
namespace Go.Proofs.Ytaooemnninnfcaa.postOrder
open Go.ChangeShapes Go.WideShapes Go.ChangeAt Go.RowKit
set_option linter.unusedVariables false
open Go.Proofs.YtaooemnninnfcaaW.PrintWords in
theorem ints {H : Type} {enc : TypeId × Value → H} {W : World} {a : Option Addr} {len cap : Nat} {d : DataW H} {ps : List MemPlace}
    (h : DataW.Trod enc Try.prog W 0 (fun _ => true) true 38 (.slice a len cap) d ps) : ∃ l : List Int, l.length = len ∧ Kd.C (Kd.int .i64) W a l.length l := by
  obtain ⟨fuel, hf⟩ := h
  obtain ⟨A, n, c, l, hcs, h1, h2, h3, h4⟩ := Opened.opened_slice (Kd.int .i64) Try.underlying38 (by kernel_rfl) (fun n cs y hy => by
    obtain ⟨m, e, _⟩ := DataW.trod_int Try.underlying3 hy
    exact ⟨m, e⟩) hf
  simp [Value.cells] at hcs
  obtain ⟨rfl, rfl, rfl⟩ := hcs
  exact ⟨l, h1, h4⟩
open Go.Proofs.YtaooemnninnfcaaW.PrintWords in
theorem walk (A A1 : Option Addr) (l : List PAll.S28) (pk : List Int) (c c1 : Nat) (W : World) (h : Bag.Came W A l) (h1 : Kd.C (Kd.int .i64) W A1 pk.length pk) (hc : l.length ≤ c) :
    Calls Try.prog 4 #[.slice A l.length c, .slice A1 pk.length c1] W fun e w' => e = .returned (.bool true) ∧ Below W.heap.size W w' := by
  by_cases hl : 300 < l.length
  · exact Bag.order_short A l c _ W (decide_eq_true (by omega))
  · exact Bag.order_walk A A1 l pk c c1 W h h1 hc (by omega)
set_option maxRecDepth 100000 in
theorem lifted (os : Os) (started : os.Started) (H : Type) (enc : TypeId × Value → H) :
    ReturnsInHanded {} Try.checked os 4 .any (Rows.postOrderSpec.pre6 enc Try.prog Try.f4 Rows.postOrderRow.domain false) (Rows.postOrderSpec.post enc Try.prog Try.f4 false true false false) := by
  refine returnsInHanded_of_change (C := Try.checked) Opened.own started (by kernel_rfl) Try.func4
    (ChangeSpec.witness6 (enc := enc) (C := Try.checked) false ⟨#[], #[.slice none 0 0, .slice none 0 0], []⟩ 8 (by kernel_rfl) (by kernel_rfl) (by kernel_rfl) (by kernel_rfl)) ?_
  intro W base args ds gs before hval0 hW _ _
  have hval : ∀ (j : Nat) t v, Try.f4.params[j]? = some t → args[j]? = some v → Value.okWide Try.prog W .any base t v := hval0
  have hW' := hW
  obtain ⟨p, q, hA0, hV, rfl, hfz, hnd⟩ := hW
  have hA : DataW.TrodAll enc Try.prog W 0 (fun _ => true) true Try.f4.params.toList args.toList ds p := hA0
  rw [Try.params4] at hA hval
  obtain ⟨v0, vs0, d0, ds0, p0, q0, hargs, rfl, rfl, h0, r0⟩ := trodAll_cons hA
  obtain ⟨v1, vs1, d1, ds1, p1, q1, rfl, rfl, rfl, h1, r1⟩ := trodAll_cons r0
  obtain ⟨rfl, rfl, rfl⟩ := trodAll_nil r1
  obtain rfl : args = #[v0, v1] := by cases args; simp_all
  obtain ⟨rfl, rfl⟩ := trodVars_none hV
  have k0 := h0
  have k1 := h1
  have lt0 : ∀ x ∈ p0, x.block < W.heap.size := by obtain ⟨m, hm⟩ := k0; exact DataW.trod_lt m _ _ _ hm
  have lt1 : ∀ x ∈ p1, x.block < W.heap.size := by obtain ⟨m, hm⟩ := k1; exact DataW.trod_lt m _ _ _ hm
  obtain ⟨a0, len0, cap0, rfl⟩ := okWide_slice Try.underlying26 (hval 0 26 v0 rfl rfl)
  obtain ⟨l, rfl, hlc, _, hC⟩ := Opened.letters h0
  obtain ⟨a1, len1, cap1, rfl⟩ := okWide_slice Try.underlying38 (hval 1 38 v1 rfl rfl)
  obtain ⟨pk, rfl, hC1⟩ := ints h1
  clear hA0 hval0
  refine (walk a0 a1 l pk cap0 cap1 W hC hC1 hlc).mono fun e W' ⟨he, bel⟩ => ?_
  subst he
  exact ⟨_, rfl, _, _, _, [], _, [], hW', trodAll_mk1 (shut_bool Try.underlying4 _), (trodAll_cons_mk (Below.trod Opened.laidOut (by kernel_rfl) (of_decide_eq_true (by kernel_rfl)) k0 bel lt0) (trodAll_cons_mk (Below.trod Opened.laidOut (by kernel_rfl) (of_decide_eq_true (by kernel_rfl)) k1 bel lt1) trodAll_mk0)), rfl, bel.frame _, fun h => by cases h⟩
theorem over : Rows.postOrderRow.holds Try.pinned (OpenSpec.ofChange Rows.postOrderSpec) :=
  OpenClaim.holds_of_wide 4 Try.f4 rfl rfl rfl rfl rfl rfl rfl ⟨rfl, rfl, rfl, rfl, rfl⟩ rfl rfl rfl rfl rfl (by kernel_rfl) Try.func4 (by kernel_rfl)
    (of_decide_eq_true (by kernel_rfl)) (by unfold Func.isWrapper; first | (rw [if_pos (by decide +kernel)]; kernel_rfl) | (rw [if_neg (by decide +kernel)]; exact ⟨rfl, rfl⟩))
    (fun os started H enc _ => lifted os started H enc)
end Go.Proofs.Ytaooemnninnfcaa.postOrder
namespace Go.Proofs.Ytaooemnninnfcaa
/-- The row, under a short name, for the claim. -/
theorem postOrder_holds : Rows.PostOrderSaid := postOrder.over
#print axioms postOrder_holds
end Go.Proofs.Ytaooemnninnfcaa
