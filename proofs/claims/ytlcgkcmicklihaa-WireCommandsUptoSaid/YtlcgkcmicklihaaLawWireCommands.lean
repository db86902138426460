/- The law WireCommands, where what it reads is of bulk at most 1048576: for every such argument the call returns true and the argument reads as before. -/
import Derived.Test.YtlcgkcmicklihaaArgs
import Derived.Test.YtlcgkcmicklihaaMCmd
import Derived.Test.YtlcgkcmicklihaaWCommands
namespace Go.Proofs.Ytlcgkcmicklihaa.Wire
set_option linter.unusedVariables false
set_option linter.unusedSimpArgs false
open Go.RowKit Go.Proofs.YtlcgkcmicklihaaW.PrintWords Go.Proofs.YtlcgkcmicklihaaW.PrintLast Go.Proofs.YtlcgkcmicklihaaW.PrintMore
theorem opens_tid : Opens tTid 48 := by
  intro H enc w base spare held fuel cs y hy
  obtain ⟨xs, n, rfl, rfl, hlen, hxl0, hf⟩ := DataW.trod_struct Try.underlying48 hy
  have hxl : xs.length = 3 := hxl0
  have hC : Try.prog.cellsOf 48 = 3 := by kernel_rfl
  rw [hC] at hlen
  obtain ⟨z0, z1, z2, rfl⟩ : ∃ z0 z1 z2, xs = [z0, z1, z2] := by
    match xs, hxl with
    | [z0, z1, z2], _ => exact ⟨z0, z1, z2, rfl⟩
  have p0 := field_part (opens_int Try.underlying3) (by kernel_rfl) (hf 0 _ rfl)
  have p1 := field_part (opens_int Try.underlying3) (by kernel_rfl) (hf 1 _ rfl)
  have p2 := field_part (opens_int Try.underlying3) (by kernel_rfl) (hf 2 _ rfl)
  obtain ⟨x, h1, h2, h3⟩ : Part w cs 0 tTid _ := (Part.pair p0 (Part.pair p1 p2 rfl) rfl)
  have e : (cs.drop 0).take tTid.sz = cs := by rw [List.drop_zero, List.take_of_length_le]; rw [hlen]; exact Nat.le_refl _
  rw [e] at h1
  refine ⟨x, h1, h2, Nat.le_trans h3 ?_⟩
  simp only [List.map_cons, List.map_nil, Rows.uptoBulk, Rows.uptoBulkAll]
  omega
theorem opens_span : Opens tSpan 66 := by
  intro H enc w base spare held fuel cs y hy
  obtain ⟨xs, n, rfl, rfl, hlen, hxl0, hf⟩ := DataW.trod_struct Try.underlying66 hy
  have hxl : xs.length = 2 := hxl0
  have hC : Try.prog.cellsOf 66 = 2 := by kernel_rfl
  rw [hC] at hlen
  obtain ⟨z0, z1, rfl⟩ : ∃ z0 z1, xs = [z0, z1] := by
    match xs, hxl with
    | [z0, z1], _ => exact ⟨z0, z1, rfl⟩
  have p0 := field_part (opens_str Try.underlying9) (by kernel_rfl) (hf 0 _ rfl)
  have p1 := field_part (opens_str Try.underlying9) (by kernel_rfl) (hf 1 _ rfl)
  obtain ⟨x, h1, h2, h3⟩ : Part w cs 0 tSpan _ := (Part.pair p0 p1 rfl)
  have e : (cs.drop 0).take tSpan.sz = cs := by rw [List.drop_zero, List.take_of_length_le]; rw [hlen]; exact Nat.le_refl _
  rw [e] at h1
  refine ⟨x, h1, h2, Nat.le_trans h3 ?_⟩
  simp only [List.map_cons, List.map_nil, Rows.uptoBulk, Rows.uptoBulkAll]
  omega
theorem opens_write : Opens tWrite 176 := by
  intro H enc w base spare held fuel cs y hy
  obtain ⟨xs, n, rfl, rfl, hlen, hxl0, hf⟩ := DataW.trod_struct Try.underlying176 hy
  have hxl : xs.length = 3 := hxl0
  have hC : Try.prog.cellsOf 176 = 3 := by kernel_rfl
  rw [hC] at hlen
  obtain ⟨z0, z1, z2, rfl⟩ : ∃ z0 z1 z2, xs = [z0, z1, z2] := by
    match xs, hxl with
    | [z0, z1, z2], _ => exact ⟨z0, z1, z2, rfl⟩
  have p0 := field_part (opens_str Try.underlying9) (by kernel_rfl) (hf 0 _ rfl)
  have p1 := field_part (opens_str Try.underlying9) (by kernel_rfl) (hf 1 _ rfl)
  have p2 := field_part (opens_bool Try.underlying4) (by kernel_rfl) (hf 2 _ rfl)
  obtain ⟨x, h1, h2, h3⟩ : Part w cs 0 tWrite _ := (Part.pair (Part.pair p0 p1 rfl) p2 rfl)
  have e : (cs.drop 0).take tWrite.sz = cs := by rw [List.drop_zero, List.take_of_length_le]; rw [hlen]; exact Nat.le_refl _
  rw [e] at h1
  refine ⟨x, h1, h2, Nat.le_trans h3 ?_⟩
  simp only [List.map_cons, List.map_nil, Rows.uptoBulk, Rows.uptoBulkAll]
  omega
theorem opens_stamp : Opens tStamp 185 := by
  intro H enc w base spare held fuel cs y hy
  obtain ⟨xs, n, rfl, rfl, hlen, hxl0, hf⟩ := DataW.trod_struct Try.underlying185 hy
  have hxl : xs.length = 2 := hxl0
  have hC : Try.prog.cellsOf 185 = 2 := by kernel_rfl
  rw [hC] at hlen
  obtain ⟨z0, z1, rfl⟩ : ∃ z0 z1, xs = [z0, z1] := by
    match xs, hxl with
    | [z0, z1], _ => exact ⟨z0, z1, rfl⟩
  have p0 := field_part (opens_str Try.underlying9) (by kernel_rfl) (hf 0 _ rfl)
  have p1 := field_part (opens_int Try.underlying3) (by kernel_rfl) (hf 1 _ rfl)
  obtain ⟨x, h1, h2, h3⟩ : Part w cs 0 tStamp _ := (Part.pair p0 p1 rfl)
  have e : (cs.drop 0).take tStamp.sz = cs := by rw [List.drop_zero, List.take_of_length_le]; rw [hlen]; exact Nat.le_refl _
  rw [e] at h1
  refine ⟨x, h1, h2, Nat.le_trans h3 ?_⟩
  simp only [List.map_cons, List.map_nil, Rows.uptoBulk, Rows.uptoBulkAll]
  omega
theorem opens_reading : Opens tReading 69 := by
  intro H enc w base spare held fuel cs y hy
  obtain ⟨xs, n, rfl, rfl, hlen, hxl0, hf⟩ := DataW.trod_struct Try.underlying69 hy
  have hxl : xs.length = 2 := hxl0
  have hC : Try.prog.cellsOf 69 = 3 := by kernel_rfl
  rw [hC] at hlen
  obtain ⟨z0, z1, rfl⟩ : ∃ z0 z1, xs = [z0, z1] := by
    match xs, hxl with
    | [z0, z1], _ => exact ⟨z0, z1, rfl⟩
  have p0 := field_part opens_span (by kernel_rfl) (hf 0 _ rfl)
  have p1 := field_part (opens_list (e := tStamp) Try.underlying67 (by kernel_rfl) opens_stamp) (by kernel_rfl) (hf 1 _ rfl)
  obtain ⟨x, h1, h2, h3⟩ : Part w cs 0 tReading _ := (Part.pair p0 p1 rfl)
  have e : (cs.drop 0).take tReading.sz = cs := by rw [List.drop_zero, List.take_of_length_le]; rw [hlen]; exact Nat.le_refl _
  rw [e] at h1
  refine ⟨x, h1, h2, Nat.le_trans h3 ?_⟩
  simp only [List.map_cons, List.map_nil, Rows.uptoBulk, Rows.uptoBulkAll]
  omega
theorem opens_value : Opens tValue 59 := by
  intro H enc w base spare held fuel cs y hy
  obtain ⟨xs, n, rfl, rfl, hlen, hxl0, hf⟩ := DataW.trod_struct Try.underlying59 hy
  have hxl : xs.length = 3 := hxl0
  have hC : Try.prog.cellsOf 59 = 3 := by kernel_rfl
  rw [hC] at hlen
  obtain ⟨z0, z1, z2, rfl⟩ : ∃ z0 z1 z2, xs = [z0, z1, z2] := by
    match xs, hxl with
    | [z0, z1, z2], _ => exact ⟨z0, z1, z2, rfl⟩
  have p0 := field_part (opens_int Try.underlying3) (by kernel_rfl) (hf 0 _ rfl)
  have p1 := field_part (opens_int Try.underlying2) (by kernel_rfl) (hf 1 _ rfl)
  have p2 := field_part (opens_str Try.underlying9) (by kernel_rfl) (hf 2 _ rfl)
  obtain ⟨x, h1, h2, h3⟩ : Part w cs 0 tValue _ := (Part.pair p0 (Part.pair p1 p2 rfl) rfl)
  have e : (cs.drop 0).take tValue.sz = cs := by rw [List.drop_zero, List.take_of_length_le]; rw [hlen]; exact Nat.le_refl _
  rw [e] at h1
  refine ⟨x, h1, h2, Nat.le_trans h3 ?_⟩
  simp only [List.map_cons, List.map_nil, Rows.uptoBulk, Rows.uptoBulkAll]
  omega
theorem opens_column : Opens tColumn 232 := by
  intro H enc w base spare held fuel cs y hy
  obtain ⟨xs, n, rfl, rfl, hlen, hxl0, hf⟩ := DataW.trod_struct Try.underlying232 hy
  have hxl : xs.length = 5 := hxl0
  have hC : Try.prog.cellsOf 232 = 7 := by kernel_rfl
  rw [hC] at hlen
  obtain ⟨z0, z1, z2, z3, z4, rfl⟩ : ∃ z0 z1 z2 z3 z4, xs = [z0, z1, z2, z3, z4] := by
    match xs, hxl with
    | [z0, z1, z2, z3, z4], _ => exact ⟨z0, z1, z2, z3, z4, rfl⟩
  have p0 := field_part (opens_int Try.underlying3) (by kernel_rfl) (hf 0 _ rfl)
  have p1 := field_part (opens_str Try.underlying9) (by kernel_rfl) (hf 1 _ rfl)
  have p2 := field_part (opens_int Try.underlying3) (by kernel_rfl) (hf 2 _ rfl)
  have p3 := field_part (opens_int Try.underlying3) (by kernel_rfl) (hf 3 _ rfl)
  have p4 := field_part opens_value (by kernel_rfl) (hf 4 _ rfl)
  obtain ⟨x, h1, h2, h3⟩ : Part w cs 0 tColumn _ := (Part.pair p0 (Part.pair p1 (Part.pair (Part.pair p2 p3 rfl) p4 rfl) rfl) rfl)
  have e : (cs.drop 0).take tColumn.sz = cs := by rw [List.drop_zero, List.take_of_length_le]; rw [hlen]; exact Nat.le_refl _
  rw [e] at h1
  refine ⟨x, h1, h2, Nat.le_trans h3 ?_⟩
  simp only [List.map_cons, List.map_nil, Rows.uptoBulk, Rows.uptoBulkAll]
  omega
theorem opens_ddl : Opens tDdl 62 := by
  intro H enc w base spare held fuel cs y hy
  obtain ⟨xs, n, rfl, rfl, hlen, hxl0, hf⟩ := DataW.trod_struct Try.underlying62 hy
  have hxl : xs.length = 9 := hxl0
  have hC : Try.prog.cellsOf 62 = 11 := by kernel_rfl
  rw [hC] at hlen
  obtain ⟨z0, z1, z2, z3, z4, z5, z6, z7, z8, rfl⟩ : ∃ z0 z1 z2 z3 z4 z5 z6 z7 z8, xs = [z0, z1, z2, z3, z4, z5, z6, z7, z8] := by
    match xs, hxl with
    | [z0, z1, z2, z3, z4, z5, z6, z7, z8], _ => exact ⟨z0, z1, z2, z3, z4, z5, z6, z7, z8, rfl⟩
  have p0 := field_part (opens_int Try.underlying3) (by kernel_rfl) (hf 0 _ rfl)
  have p1 := field_part (opens_str Try.underlying9) (by kernel_rfl) (hf 1 _ rfl)
  have p2 := field_part (opens_str Try.underlying9) (by kernel_rfl) (hf 2 _ rfl)
  have p3 := field_part (opens_str Try.underlying9) (by kernel_rfl) (hf 3 _ rfl)
  have p4 := field_part (opens_str Try.underlying9) (by kernel_rfl) (hf 4 _ rfl)
  have p5 := field_part (opens_bool Try.underlying4) (by kernel_rfl) (hf 5 _ rfl)
  have p6 := field_part (opens_int Try.underlying3) (by kernel_rfl) (hf 6 _ rfl)
  have p7 := field_part opens_value (by kernel_rfl) (hf 7 _ rfl)
  have p8 := field_part (opens_list (e := tColumn) Try.underlying60 (by kernel_rfl) opens_column) (by kernel_rfl) (hf 8 _ rfl)
  obtain ⟨x, h1, h2, h3⟩ : Part w cs 0 tDdl _ := (Part.pair p0 (Part.pair (Part.pair p1 (Part.pair p2 (Part.pair p3 p4 rfl) rfl) rfl) (Part.pair p5 (Part.pair p6 (Part.pair p7 p8 rfl) rfl) rfl) rfl) rfl)
  have e : (cs.drop 0).take tDdl.sz = cs := by rw [List.drop_zero, List.take_of_length_le]; rw [hlen]; exact Nat.le_refl _
  rw [e] at h1
  refine ⟨x, h1, h2, Nat.le_trans h3 ?_⟩
  simp only [List.map_cons, List.map_nil, Rows.uptoBulk, Rows.uptoBulkAll]
  omega
theorem opens_command : Opens tCommand 64 := by
  intro H enc w base spare held fuel cs y hy
  obtain ⟨xs, n, rfl, rfl, hlen, hxl0, hf⟩ := DataW.trod_struct Try.underlying64 hy
  have hxl : xs.length = 16 := hxl0
  have hC : Try.prog.cellsOf 64 = 30 := by kernel_rfl
  rw [hC] at hlen
  obtain ⟨z0, z1, z2, z3, z4, z5, z6, z7, z8, z9, z10, z11, z12, z13, z14, z15, rfl⟩ : ∃ z0 z1 z2 z3 z4 z5 z6 z7 z8 z9 z10 z11 z12 z13 z14 z15, xs = [z0, z1, z2, z3, z4, z5, z6, z7, z8, z9, z10, z11, z12, z13, z14, z15] := by
    match xs, hxl with
    | [z0, z1, z2, z3, z4, z5, z6, z7, z8, z9, z10, z11, z12, z13, z14, z15], _ => exact ⟨z0, z1, z2, z3, z4, z5, z6, z7, z8, z9, z10, z11, z12, z13, z14, z15, rfl⟩
  have p0 := field_part (opens_int Try.underlying3) (by kernel_rfl) (hf 0 _ rfl)
  have p1 := field_part opens_tid (by kernel_rfl) (hf 1 _ rfl)
  have p2 := field_part opens_tid (by kernel_rfl) (hf 2 _ rfl)
  have p3 := field_part (opens_int Try.underlying3) (by kernel_rfl) (hf 3 _ rfl)
  have p4 := field_part (opens_list (e := tReading) Try.underlying57 (by kernel_rfl) opens_reading) (by kernel_rfl) (hf 4 _ rfl)
  have p5 := field_part (opens_list (e := tWrite) Try.underlying50 (by kernel_rfl) opens_write) (by kernel_rfl) (hf 5 _ rfl)
  have p6 := field_part (opens_int Try.underlying3) (by kernel_rfl) (hf 6 _ rfl)
  have p7 := field_part (opens_int Try.underlying3) (by kernel_rfl) (hf 7 _ rfl)
  have p8 := field_part (opens_int Try.underlying3) (by kernel_rfl) (hf 8 _ rfl)
  have p9 := field_part (opens_int Try.underlying3) (by kernel_rfl) (hf 9 _ rfl)
  have p10 := field_part (opens_int Try.underlying3) (by kernel_rfl) (hf 10 _ rfl)
  have p11 := field_part opens_ddl (by kernel_rfl) (hf 11 _ rfl)
  have p12 := field_part (opens_int Try.underlying3) (by kernel_rfl) (hf 12 _ rfl)
  have p13 := field_part (opens_int Try.underlying3) (by kernel_rfl) (hf 13 _ rfl)
  have p14 := field_part (opens_str Try.underlying9) (by kernel_rfl) (hf 14 _ rfl)
  have p15 := field_part (opens_int Try.underlying27) (by kernel_rfl) (hf 15 _ rfl)
  obtain ⟨x, h1, h2, h3⟩ : Part w cs 0 tCommand _ := (Part.pair p0 (Part.pair p1 (Part.pair p2 (Part.pair p3 (Part.pair p4 (Part.pair p5 (Part.pair (Part.pair p6 (Part.pair p7 (Part.pair p8 (Part.pair p9 p10 rfl) rfl) rfl) rfl) (Part.pair p11 (Part.pair (Part.pair p12 p13 rfl) (Part.pair p14 p15 rfl) rfl) rfl) rfl) rfl) rfl) rfl) rfl) rfl) rfl)
  have e : (cs.drop 0).take tCommand.sz = cs := by rw [List.drop_zero, List.take_of_length_le]; rw [hlen]; exact Nat.le_refl _
  rw [e] at h1
  refine ⟨x, h1, h2, Nat.le_trans h3 ?_⟩
  simp only [List.map_cons, List.map_nil, Rows.uptoBulk, Rows.uptoBulkAll]
  omega
end Go.Proofs.Ytlcgkcmicklihaa.Wire
namespace Go.Proofs.Ytlcgkcmicklihaa.wireCommands
open Go.ChangeShapes Go.WideShapes Go.ChangeAt Go.RowKit Go.Proofs.YtlcgkcmicklihaaW.PrintWords Go.Proofs.Ytlcgkcmicklihaa.Wire
set_option linter.unusedVariables false
set_option maxRecDepth 100000 in
theorem contract (H : Type) (enc : TypeId × Value → H) (W : World) (base : Nat) (args : Array Value) (ds gs : List (DataW H)) (before : List MemPlace)
    (hval : ∀ (j : Nat) t v, Try.f7.params[j]? = some t → args[j]? = some v → Value.okWide Try.prog W .any base t v)
    (hW : DataW.Whole enc Try.prog Try.f7.params.toList Rows.wireCommandsSpec.vars false W args.toList ds gs before) (hk : Rows.uptoSmall H (ds ++ gs) = true) :
    Calls Try.prog 7 args W fun e W' => ∃ v, e = .returned v ∧ Rows.wireCommandsSpec.post enc Try.prog Try.f7 false true false false W args v W' := by
  have hW' := hW
  obtain ⟨p, q, hA0, hV, rfl, hfz, hnd⟩ := hW
  have hA : DataW.TrodAll enc Try.prog W 0 (fun _ => true) true Try.f7.params.toList args.toList ds p := hA0
  rw [Try.params7] at hA hval
  obtain ⟨v0, vs0, d0, ds0, p0, q0, hargs, rfl, rfl, h0, r0⟩ := trodAll_cons hA
  obtain ⟨rfl, rfl, rfl⟩ := trodAll_nil r0
  obtain rfl : args = #[v0] := by cases args; simp_all
  obtain ⟨rfl, rfl⟩ := trodVars_none hV
  obtain ⟨cs, rfl, _⟩ := okWide_struct Try.underlying64 (hval 0 64 v0 rfl rfl)
  have k0 := h0
  have lt0 : ∀ x ∈ p0, x.block < W.heap.size := by obtain ⟨m, hm⟩ := k0; exact DataW.trod_lt m _ _ _ hm
  obtain ⟨x, hH, hok, hen⟩ : ∃ x : tCommand.T, Holds W (fun _ => True) tCommand x cs.toList ∧ tCommand.cod.ok x ∧ (tCommand.cod.enc x).length ≤ 10 * Rows.uptoBulk d0 := by
    obtain ⟨m, hm⟩ := h0
    exact opens_command hm
  have hk2 := of_decide_eq_true hk
  have w1 : (tCommand.cod.enc x).length ≤ 68719476736 := by
    simp only [List.append_nil, Rows.uptoBulkAll] at hk2
    omega
  clear hA0
  have hw := wireCommands_walk x cs.toList W hH hok w1
  rw [Array.toArray_toList] at hw
  refine hw.mono fun e W' ⟨he, bel⟩ => ?_
  subst he
  exact ⟨_, rfl, _, _, _, [], _, [], hW', trodAll_mk1 (shut_bool Try.underlying4 _), (trodAll_cons_mk (Below.trod Wire.laidOut (by kernel_rfl) (of_decide_eq_true (by kernel_rfl)) k0 bel lt0) trodAll_mk0), rfl, bel.frame _, fun h => by cases h⟩
set_option maxRecDepth 100000 in
theorem lifted (os : Os) (started : os.Started) (H : Type) (enc : TypeId × Value → H) (F : Stop.Interp) :
    ReturnsInHanded {} Try.checked os 7 .any ((Rows.OpenSpec.upto Rows.wireCommandsSpec).pre6 enc Try.prog Try.f7 Rows.wireCommandsUptoRow.domain false) (((Rows.OpenSpec.upto Rows.wireCommandsSpec).at F).post enc Try.prog Try.f7 false true false false) := by
  refine returnsInHanded_of_cond (C := Try.checked) (s := Rows.OpenSpec.upto Rows.wireCommandsSpec) (k := Rows.uptoSmall) rfl Wire.own started (by kernel_rfl) Try.func7
    (OpenSpec.witness (enc := enc) (C := Try.checked) (s := Rows.OpenSpec.upto Rows.wireCommandsSpec) (k := Rows.uptoSmall) rfl false ⟨#[], #[.agg #[.int .i64 0, .int .i64 0, .int .i64 0, .int .i64 0, .int .i64 0, .int .i64 0, .int .i64 0, .int .i64 0, .slice none 0 0, .slice none 0 0, .int .i64 0, .int .i64 0, .int .i64 0, .int .i64 0, .int .i64 0, .int .i64 0, .string ⟨#[]⟩, .string ⟨#[]⟩, .string ⟨#[]⟩, .string ⟨#[]⟩, .bool false, .int .i64 0, .int .i64 0, .int .i64 0, .string ⟨#[]⟩, .slice none 0 0, .int .i64 0, .int .i64 0, .string ⟨#[]⟩, .int .i64 0]], []⟩ 8 (by kernel_rfl) (by kernel_rfl) (by kernel_rfl)
      (x := ([.agg [.lit (.int .i64 0), .agg [.lit (.int .i64 0), .lit (.int .i64 0), .lit (.int .i64 0)], .agg [.lit (.int .i64 0), .lit (.int .i64 0), .lit (.int .i64 0)], .lit (.int .i64 0), .nil, .nil, .lit (.int .i64 0), .lit (.int .i64 0), .lit (.int .i64 0), .lit (.int .i64 0), .lit (.int .i64 0), .agg [.lit (.int .i64 0), .lit (.string []), .lit (.string []), .lit (.string []), .lit (.string []), .lit (.bool false), .lit (.int .i64 0), .agg [.lit (.int .i64 0), .lit (.int .i64 0), .lit (.string [])], .nil], .lit (.int .i64 0), .lit (.int .i64 0), .lit (.string []), .lit (.int .i64 0)]], [], [])) (by kernel_rfl) rfl (by kernel_rfl)) ?_
  intro W base args ds gs before hval hW _ hk _
  exact contract H enc W base args ds gs before hval hW hk
theorem over : Rows.wireCommandsUptoRow.holds Try.pinned (Rows.OpenSpec.upto Rows.wireCommandsSpec) :=
  OpenClaim.holds_of_cond 7 Try.f7 rfl rfl rfl rfl rfl rfl rfl ⟨rfl, rfl, rfl, rfl, rfl⟩ rfl rfl rfl rfl rfl (by kernel_rfl) Try.func7 (by kernel_rfl)
    (of_decide_eq_true (by kernel_rfl)) (by unfold Func.isWrapper; first | (rw [if_pos (by decide +kernel)]; kernel_rfl) | (rw [if_neg (by decide +kernel)]; exact ⟨rfl, rfl⟩))
    (fun os started H enc _ F => lifted os started H enc F)
end Go.Proofs.Ytlcgkcmicklihaa.wireCommands
namespace Go.Proofs.Ytlcgkcmicklihaa
/-- The row, under a short name, for the claim. -/
theorem wireCommands_holds : Rows.WireCommandsUptoSaid := wireCommands.over
#print axioms wireCommands_holds
end Go.Proofs.Ytlcgkcmicklihaa
