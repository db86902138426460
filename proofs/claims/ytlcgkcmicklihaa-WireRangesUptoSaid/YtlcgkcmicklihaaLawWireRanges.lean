/- The law WireRanges, where what it reads is of bulk at most 1048576: for every such argument the call returns true and the argument reads as before. -/
import Derived.Test.YtlcgkcmicklihaaArgs
import Derived.Test.YtlcgkcmicklihaaMRange
import Derived.Test.YtlcgkcmicklihaaWRanges
namespace Go.Proofs.Ytlcgkcmicklihaa.Wire
set_option linter.unusedVariables false
set_option linter.unusedSimpArgs false
open Go.RowKit Go.Proofs.YtlcgkcmicklihaaW.PrintWords Go.Proofs.YtlcgkcmicklihaaW.PrintLast Go.Proofs.YtlcgkcmicklihaaW.PrintMore
theorem opens_tid : Opens tTid 48 := by
  intro H enc w base spare held fuel cs y hy
  obtain ⟨xs, n, rfl, rfl, hlen, hxl0, hf⟩ := DataW.trod_struct Try.underlying48 hy
  have hxl : xs.length = 3 := hxl0
  have hC : Try.prog.cellsOf 48 = 3 := by kernel_rfl
  rw [hC] at hlen
  obtain ⟨z0, z1, z2, rfl⟩ : ∃ z0 z1 z2, xs = [z0, z1, z2] := by
    match xs, hxl with
    | [z0, z1, z2], _ => exact ⟨z0, z1, z2, rfl⟩
  have p0 := field_part (opens_int Try.underlying3) (by kernel_rfl) (hf 0 _ rfl)
  have p1 := field_part (opens_int Try.underlying3) (by kernel_rfl) (hf 1 _ rfl)
  have p2 := field_part (opens_int Try.underlying3) (by kernel_rfl) (hf 2 _ rfl)
  obtain ⟨x, h1, h2, h3⟩ : Part w cs 0 tTid _ := (Part.pair p0 (Part.pair p1 p2 rfl) rfl)
  have e : (cs.drop 0).take tTid.sz = cs := by rw [List.drop_zero, List.take_of_length_le]; rw [hlen]; exact Nat.le_refl _
  rw [e] at h1
  refine ⟨x, h1, h2, Nat.le_trans h3 ?_⟩
  simp only [List.map_cons, List.map_nil, Rows.uptoBulk, Rows.uptoBulkAll]
  omega
theorem opens_version : Opens tVersion 166 := by
  intro H enc w base spare held fuel cs y hy
  obtain ⟨xs, n, rfl, rfl, hlen, hxl0, hf⟩ := DataW.trod_struct Try.underlying166 hy
  have hxl : xs.length = 3 := hxl0
  have hC : Try.prog.cellsOf 166 = 3 := by kernel_rfl
  rw [hC] at hlen
  obtain ⟨z0, z1, z2, rfl⟩ : ∃ z0 z1 z2, xs = [z0, z1, z2] := by
    match xs, hxl with
    | [z0, z1, z2], _ => exact ⟨z0, z1, z2, rfl⟩
  have p0 := field_part (opens_int Try.underlying3) (by kernel_rfl) (hf 0 _ rfl)
  have p1 := field_part (opens_str Try.underlying9) (by kernel_rfl) (hf 1 _ rfl)
  have p2 := field_part (opens_bool Try.underlying4) (by kernel_rfl) (hf 2 _ rfl)
  obtain ⟨x, h1, h2, h3⟩ : Part w cs 0 tVersion _ := (Part.pair p0 (Part.pair p1 p2 rfl) rfl)
  have e : (cs.drop 0).take tVersion.sz = cs := by rw [List.drop_zero, List.take_of_length_le]; rw [hlen]; exact Nat.le_refl _
  rw [e] at h1
  refine ⟨x, h1, h2, Nat.le_trans h3 ?_⟩
  simp only [List.map_cons, List.map_nil, Rows.uptoBulk, Rows.uptoBulkAll]
  omega
theorem opens_row : Opens tRow 46 := by
  intro H enc w base spare held fuel cs y hy
  obtain ⟨xs, n, rfl, rfl, hlen, hxl0, hf⟩ := DataW.trod_struct Try.underlying46 hy
  have hxl : xs.length = 2 := hxl0
  have hC : Try.prog.cellsOf 46 = 2 := by kernel_rfl
  rw [hC] at hlen
  obtain ⟨z0, z1, rfl⟩ : ∃ z0 z1, xs = [z0, z1] := by
    match xs, hxl with
    | [z0, z1], _ => exact ⟨z0, z1, rfl⟩
  have p0 := field_part (opens_str Try.underlying9) (by kernel_rfl) (hf 0 _ rfl)
  have p1 := field_part (opens_list (e := tVersion) Try.underlying44 (by kernel_rfl) opens_version) (by kernel_rfl) (hf 1 _ rfl)
  obtain ⟨x, h1, h2, h3⟩ : Part w cs 0 tRow _ := (Part.pair p0 p1 rfl)
  have e : (cs.drop 0).take tRow.sz = cs := by rw [List.drop_zero, List.take_of_length_le]; rw [hlen]; exact Nat.le_refl _
  rw [e] at h1
  refine ⟨x, h1, h2, Nat.le_trans h3 ?_⟩
  simp only [List.map_cons, List.map_nil, Rows.uptoBulk, Rows.uptoBulkAll]
  omega
theorem opens_span : Opens tSpan 66 := by
  intro H enc w base spare held fuel cs y hy
  obtain ⟨xs, n, rfl, rfl, hlen, hxl0, hf⟩ := DataW.trod_struct Try.underlying66 hy
  have hxl : xs.length = 2 := hxl0
  have hC : Try.prog.cellsOf 66 = 2 := by kernel_rfl
  rw [hC] at hlen
  obtain ⟨z0, z1, rfl⟩ : ∃ z0 z1, xs = [z0, z1] := by
    match xs, hxl with
    | [z0, z1], _ => exact ⟨z0, z1, rfl⟩
  have p0 := field_part (opens_str Try.underlying9) (by kernel_rfl) (hf 0 _ rfl)
  have p1 := field_part (opens_str Try.underlying9) (by kernel_rfl) (hf 1 _ rfl)
  obtain ⟨x, h1, h2, h3⟩ : Part w cs 0 tSpan _ := (Part.pair p0 p1 rfl)
  have e : (cs.drop 0).take tSpan.sz = cs := by rw [List.drop_zero, List.take_of_length_le]; rw [hlen]; exact Nat.le_refl _
  rw [e] at h1
  refine ⟨x, h1, h2, Nat.le_trans h3 ?_⟩
  simp only [List.map_cons, List.map_nil, Rows.uptoBulk, Rows.uptoBulkAll]
  omega
theorem opens_write : Opens tWrite 176 := by
  intro H enc w base spare held fuel cs y hy
  obtain ⟨xs, n, rfl, rfl, hlen, hxl0, hf⟩ := DataW.trod_struct Try.underlying176 hy
  have hxl : xs.length = 3 := hxl0
  have hC : Try.prog.cellsOf 176 = 3 := by kernel_rfl
  rw [hC] at hlen
  obtain ⟨z0, z1, z2, rfl⟩ : ∃ z0 z1 z2, xs = [z0, z1, z2] := by
    match xs, hxl with
    | [z0, z1, z2], _ => exact ⟨z0, z1, z2, rfl⟩
  have p0 := field_part (opens_str Try.underlying9) (by kernel_rfl) (hf 0 _ rfl)
  have p1 := field_part (opens_str Try.underlying9) (by kernel_rfl) (hf 1 _ rfl)
  have p2 := field_part (opens_bool Try.underlying4) (by kernel_rfl) (hf 2 _ rfl)
  obtain ⟨x, h1, h2, h3⟩ : Part w cs 0 tWrite _ := (Part.pair (Part.pair p0 p1 rfl) p2 rfl)
  have e : (cs.drop 0).take tWrite.sz = cs := by rw [List.drop_zero, List.take_of_length_le]; rw [hlen]; exact Nat.le_refl _
  rw [e] at h1
  refine ⟨x, h1, h2, Nat.le_trans h3 ?_⟩
  simp only [List.map_cons, List.map_nil, Rows.uptoBulk, Rows.uptoBulkAll]
  omega
theorem opens_lock : Opens tLock 52 := by
  intro H enc w base spare held fuel cs y hy
  obtain ⟨xs, n, rfl, rfl, hlen, hxl0, hf⟩ := DataW.trod_struct Try.underlying52 hy
  have hxl : xs.length = 5 := hxl0
  have hC : Try.prog.cellsOf 52 = 7 := by kernel_rfl
  rw [hC] at hlen
  obtain ⟨z0, z1, z2, z3, z4, rfl⟩ : ∃ z0 z1 z2 z3 z4, xs = [z0, z1, z2, z3, z4] := by
    match xs, hxl with
    | [z0, z1, z2, z3, z4], _ => exact ⟨z0, z1, z2, z3, z4, rfl⟩
  have p0 := field_part opens_tid (by kernel_rfl) (hf 0 _ rfl)
  have p1 := field_part (opens_int Try.underlying3) (by kernel_rfl) (hf 1 _ rfl)
  have p2 := field_part (opens_int Try.underlying3) (by kernel_rfl) (hf 2 _ rfl)
  have p3 := field_part (opens_list (e := tSpan) Try.underlying49 (by kernel_rfl) opens_span) (by kernel_rfl) (hf 3 _ rfl)
  have p4 := field_part (opens_list (e := tWrite) Try.underlying50 (by kernel_rfl) opens_write) (by kernel_rfl) (hf 4 _ rfl)
  obtain ⟨x, h1, h2, h3⟩ : Part w cs 0 tLock _ := (Part.pair p0 (Part.pair (Part.pair p1 p2 rfl) (Part.pair p3 p4 rfl) rfl) rfl)
  have e : (cs.drop 0).take tLock.sz = cs := by rw [List.drop_zero, List.take_of_length_le]; rw [hlen]; exact Nat.le_refl _
  rw [e] at h1
  refine ⟨x, h1, h2, Nat.le_trans h3 ?_⟩
  simp only [List.map_cons, List.map_nil, Rows.uptoBulk, Rows.uptoBulkAll]
  omega
theorem opens_record : Opens tRecord 116 := by
  intro H enc w base spare held fuel cs y hy
  obtain ⟨xs, n, rfl, rfl, hlen, hxl0, hf⟩ := DataW.trod_struct Try.underlying116 hy
  have hxl : xs.length = 2 := hxl0
  have hC : Try.prog.cellsOf 116 = 4 := by kernel_rfl
  rw [hC] at hlen
  obtain ⟨z0, z1, rfl⟩ : ∃ z0 z1, xs = [z0, z1] := by
    match xs, hxl with
    | [z0, z1], _ => exact ⟨z0, z1, rfl⟩
  have p0 := field_part opens_tid (by kernel_rfl) (hf 0 _ rfl)
  have p1 := field_part (opens_int Try.underlying3) (by kernel_rfl) (hf 1 _ rfl)
  obtain ⟨x, h1, h2, h3⟩ : Part w cs 0 tRecord _ := (Part.pair p0 p1 rfl)
  have e : (cs.drop 0).take tRecord.sz = cs := by rw [List.drop_zero, List.take_of_length_le]; rw [hlen]; exact Nat.le_refl _
  rw [e] at h1
  refine ⟨x, h1, h2, Nat.le_trans h3 ?_⟩
  simp only [List.map_cons, List.map_nil, Rows.uptoBulk, Rows.uptoBulkAll]
  omega
theorem opens_state : Opens tState 43 := by
  intro H enc w base spare held fuel cs y hy
  obtain ⟨xs, n, rfl, rfl, hlen, hxl0, hf⟩ := DataW.trod_struct Try.underlying43 hy
  have hxl : xs.length = 5 := hxl0
  have hC : Try.prog.cellsOf 43 = 5 := by kernel_rfl
  rw [hC] at hlen
  obtain ⟨z0, z1, z2, z3, z4, rfl⟩ : ∃ z0 z1 z2 z3 z4, xs = [z0, z1, z2, z3, z4] := by
    match xs, hxl with
    | [z0, z1, z2, z3, z4], _ => exact ⟨z0, z1, z2, z3, z4, rfl⟩
  have p0 := field_part (opens_list (e := tRow) Try.underlying38 (by kernel_rfl) opens_row) (by kernel_rfl) (hf 0 _ rfl)
  have p1 := field_part (opens_list (e := tLock) Try.underlying39 (by kernel_rfl) opens_lock) (by kernel_rfl) (hf 1 _ rfl)
  have p2 := field_part (opens_list (e := tRecord) Try.underlying40 (by kernel_rfl) opens_record) (by kernel_rfl) (hf 2 _ rfl)
  have p3 := field_part (opens_list (e := tTid) Try.underlying41 (by kernel_rfl) opens_tid) (by kernel_rfl) (hf 3 _ rfl)
  have p4 := field_part (opens_int Try.underlying3) (by kernel_rfl) (hf 4 _ rfl)
  obtain ⟨x, h1, h2, h3⟩ : Part w cs 0 tState _ := (Part.pair p0 (Part.pair p1 (Part.pair p2 (Part.pair p3 p4 rfl) rfl) rfl) rfl)
  have e : (cs.drop 0).take tState.sz = cs := by rw [List.drop_zero, List.take_of_length_le]; rw [hlen]; exact Nat.le_refl _
  rw [e] at h1
  refine ⟨x, h1, h2, Nat.le_trans h3 ?_⟩
  simp only [List.map_cons, List.map_nil, Rows.uptoBulk, Rows.uptoBulkAll]
  omega
end Go.Proofs.Ytlcgkcmicklihaa.Wire
namespace Go.Proofs.Ytlcgkcmicklihaa.wireRanges
open Go.ChangeShapes Go.WideShapes Go.ChangeAt Go.RowKit Go.Proofs.YtlcgkcmicklihaaW.PrintWords Go.Proofs.Ytlcgkcmicklihaa.Wire
set_option linter.unusedVariables false
set_option maxRecDepth 100000 in
theorem contract (H : Type) (enc : TypeId × Value → H) (W : World) (base : Nat) (args : Array Value) (ds gs : List (DataW H)) (before : List MemPlace)
    (hval : ∀ (j : Nat) t v, Try.f6.params[j]? = some t → args[j]? = some v → Value.okWide Try.prog W .any base t v)
    (hW : DataW.Whole enc Try.prog Try.f6.params.toList Rows.wireRangesSpec.vars false W args.toList ds gs before) (hk : Rows.uptoSmall H (ds ++ gs) = true) :
    Calls Try.prog 6 args W fun e W' => ∃ v, e = .returned v ∧ Rows.wireRangesSpec.post enc Try.prog Try.f6 false true false false W args v W' := by
  have hW' := hW
  obtain ⟨p, q, hA0, hV, rfl, hfz, hnd⟩ := hW
  have hA : DataW.TrodAll enc Try.prog W 0 (fun _ => true) true Try.f6.params.toList args.toList ds p := hA0
  rw [Try.params6] at hA hval
  obtain ⟨v0, vs0, d0, ds0, p0, q0, hargs, rfl, rfl, h0, r0⟩ := trodAll_cons hA
  obtain ⟨rfl, rfl, rfl⟩ := trodAll_nil r0
  obtain rfl : args = #[v0] := by cases args; simp_all
  obtain ⟨rfl, rfl⟩ := trodVars_none hV
  obtain ⟨cs, rfl, _⟩ := okWide_struct Try.underlying43 (hval 0 43 v0 rfl rfl)
  have k0 := h0
  have lt0 : ∀ x ∈ p0, x.block < W.heap.size := by obtain ⟨m, hm⟩ := k0; exact DataW.trod_lt m _ _ _ hm
  obtain ⟨x, hH, hok, hen⟩ : ∃ x : tState.T, Holds W (fun _ => True) tState x cs.toList ∧ tState.cod.ok x ∧ (tState.cod.enc x).length ≤ 10 * Rows.uptoBulk d0 := by
    obtain ⟨m, hm⟩ := h0
    exact opens_state hm
  have hk2 := of_decide_eq_true hk
  have w1 : (tState.cod.enc x).length ≤ 68719476736 := by
    simp only [List.append_nil, Rows.uptoBulkAll] at hk2
    omega
  clear hA0
  have hw := wireRanges_walk x cs.toList W hH hok w1
  rw [Array.toArray_toList] at hw
  refine hw.mono fun e W' ⟨he, bel⟩ => ?_
  subst he
  exact ⟨_, rfl, _, _, _, [], _, [], hW', trodAll_mk1 (shut_bool Try.underlying4 _), (trodAll_cons_mk (Below.trod Wire.laidOut (by kernel_rfl) (of_decide_eq_true (by kernel_rfl)) k0 bel lt0) trodAll_mk0), rfl, bel.frame _, fun h => by cases h⟩
set_option maxRecDepth 100000 in
theorem lifted (os : Os) (started : os.Started) (H : Type) (enc : TypeId × Value → H) (F : Stop.Interp) :
    ReturnsInHanded {} Try.checked os 6 .any ((Rows.OpenSpec.upto Rows.wireRangesSpec).pre6 enc Try.prog Try.f6 Rows.wireRangesUptoRow.domain false) (((Rows.OpenSpec.upto Rows.wireRangesSpec).at F).post enc Try.prog Try.f6 false true false false) := by
  refine returnsInHanded_of_cond (C := Try.checked) (s := Rows.OpenSpec.upto Rows.wireRangesSpec) (k := Rows.uptoSmall) rfl Wire.own started (by kernel_rfl) Try.func6
    (OpenSpec.witness (enc := enc) (C := Try.checked) (s := Rows.OpenSpec.upto Rows.wireRangesSpec) (k := Rows.uptoSmall) rfl false ⟨#[], #[.agg #[.slice none 0 0, .slice none 0 0, .slice none 0 0, .slice none 0 0, .int .i64 0]], []⟩ 8 (by kernel_rfl) (by kernel_rfl) (by kernel_rfl)
      (x := ([.agg [.nil, .nil, .nil, .nil, .lit (.int .i64 0)]], [], [])) (by kernel_rfl) rfl (by kernel_rfl)) ?_
  intro W base args ds gs before hval hW _ hk _
  exact contract H enc W base args ds gs before hval hW hk
theorem over : Rows.wireRangesUptoRow.holds Try.pinned (Rows.OpenSpec.upto Rows.wireRangesSpec) :=
  OpenClaim.holds_of_cond 6 Try.f6 rfl rfl rfl rfl rfl rfl rfl ⟨rfl, rfl, rfl, rfl, rfl⟩ rfl rfl rfl rfl rfl (by kernel_rfl) Try.func6 (by kernel_rfl)
    (of_decide_eq_true (by kernel_rfl)) (by unfold Func.isWrapper; first | (rw [if_pos (by decide +kernel)]; kernel_rfl) | (rw [if_neg (by decide +kernel)]; exact ⟨rfl, rfl⟩))
    (fun os started H enc _ F => lifted os started H enc F)
end Go.Proofs.Ytlcgkcmicklihaa.wireRanges
namespace Go.Proofs.Ytlcgkcmicklihaa
/-- The row, under a short name, for the claim. -/
theorem wireRanges_holds : Rows.WireRangesUptoSaid := wireRanges.over
#print axioms wireRanges_holds
end Go.Proofs.Ytlcgkcmicklihaa
