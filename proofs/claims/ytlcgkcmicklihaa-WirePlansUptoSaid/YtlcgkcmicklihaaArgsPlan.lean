/- What comes in of the board's state reads as a value of its kind. -/
import Derived.Test.YtlcgkcmicklihaaArgs
import Derived.Test.YtlcgkcmicklihaaRPlan
namespace Go.Proofs.Ytlcgkcmicklihaa.Wire
set_option linter.unusedVariables false
set_option linter.unusedSimpArgs false
open Go.RowKit Go.Proofs.YtlcgkcmicklihaaW.PrintWords Go.Proofs.YtlcgkcmicklihaaW.PrintLast Go.Proofs.YtlcgkcmicklihaaW.PrintMore
theorem opens_tid : Opens tTid 48 := by
  intro H enc w base spare held fuel cs y hy
  obtain ⟨xs, n, rfl, rfl, hlen, hxl0, hf⟩ := DataW.trod_struct Try.underlying48 hy
  have hxl : xs.length = 3 := hxl0
  have hC : Try.prog.cellsOf 48 = 3 := by kernel_rfl
  rw [hC] at hlen
  obtain ⟨z0, z1, z2, rfl⟩ : ∃ z0 z1 z2, xs = [z0, z1, z2] := by
    match xs, hxl with
    | [z0, z1, z2], _ => exact ⟨z0, z1, z2, rfl⟩
  have p0 := field_part (opens_int Try.underlying3) (by kernel_rfl) (hf 0 _ rfl)
  have p1 := field_part (opens_int Try.underlying3) (by kernel_rfl) (hf 1 _ rfl)
  have p2 := field_part (opens_int Try.underlying3) (by kernel_rfl) (hf 2 _ rfl)
  obtain ⟨x, h1, h2, h3⟩ : Part w cs 0 tTid _ := (Part.pair p0 (Part.pair p1 p2 rfl) rfl)
  have e : (cs.drop 0).take tTid.sz = cs := by rw [List.drop_zero, List.take_of_length_le]; rw [hlen]; exact Nat.le_refl _
  rw [e] at h1
  refine ⟨x, h1, h2, Nat.le_trans h3 ?_⟩
  simp only [List.map_cons, List.map_nil, Rows.uptoBulk, Rows.uptoBulkAll]
  omega
theorem opens_value : Opens tValue 59 := by
  intro H enc w base spare held fuel cs y hy
  obtain ⟨xs, n, rfl, rfl, hlen, hxl0, hf⟩ := DataW.trod_struct Try.underlying59 hy
  have hxl : xs.length = 3 := hxl0
  have hC : Try.prog.cellsOf 59 = 3 := by kernel_rfl
  rw [hC] at hlen
  obtain ⟨z0, z1, z2, rfl⟩ : ∃ z0 z1 z2, xs = [z0, z1, z2] := by
    match xs, hxl with
    | [z0, z1, z2], _ => exact ⟨z0, z1, z2, rfl⟩
  have p0 := field_part (opens_int Try.underlying3) (by kernel_rfl) (hf 0 _ rfl)
  have p1 := field_part (opens_int Try.underlying2) (by kernel_rfl) (hf 1 _ rfl)
  have p2 := field_part (opens_str Try.underlying9) (by kernel_rfl) (hf 2 _ rfl)
  obtain ⟨x, h1, h2, h3⟩ : Part w cs 0 tValue _ := (Part.pair p0 (Part.pair p1 p2 rfl) rfl)
  have e : (cs.drop 0).take tValue.sz = cs := by rw [List.drop_zero, List.take_of_length_le]; rw [hlen]; exact Nat.le_refl _
  rw [e] at h1
  refine ⟨x, h1, h2, Nat.le_trans h3 ?_⟩
  simp only [List.map_cons, List.map_nil, Rows.uptoBulk, Rows.uptoBulkAll]
  omega
theorem opens_column : Opens tColumn 232 := by
  intro H enc w base spare held fuel cs y hy
  obtain ⟨xs, n, rfl, rfl, hlen, hxl0, hf⟩ := DataW.trod_struct Try.underlying232 hy
  have hxl : xs.length = 5 := hxl0
  have hC : Try.prog.cellsOf 232 = 7 := by kernel_rfl
  rw [hC] at hlen
  obtain ⟨z0, z1, z2, z3, z4, rfl⟩ : ∃ z0 z1 z2 z3 z4, xs = [z0, z1, z2, z3, z4] := by
    match xs, hxl with
    | [z0, z1, z2, z3, z4], _ => exact ⟨z0, z1, z2, z3, z4, rfl⟩
  have p0 := field_part (opens_int Try.underlying3) (by kernel_rfl) (hf 0 _ rfl)
  have p1 := field_part (opens_str Try.underlying9) (by kernel_rfl) (hf 1 _ rfl)
  have p2 := field_part (opens_int Try.underlying3) (by kernel_rfl) (hf 2 _ rfl)
  have p3 := field_part (opens_int Try.underlying3) (by kernel_rfl) (hf 3 _ rfl)
  have p4 := field_part opens_value (by kernel_rfl) (hf 4 _ rfl)
  obtain ⟨x, h1, h2, h3⟩ : Part w cs 0 tColumn _ := (Part.pair p0 (Part.pair p1 (Part.pair (Part.pair p2 p3 rfl) p4 rfl) rfl) rfl)
  have e : (cs.drop 0).take tColumn.sz = cs := by rw [List.drop_zero, List.take_of_length_le]; rw [hlen]; exact Nat.le_refl _
  rw [e] at h1
  refine ⟨x, h1, h2, Nat.le_trans h3 ?_⟩
  simp only [List.map_cons, List.map_nil, Rows.uptoBulk, Rows.uptoBulkAll]
  omega
theorem opens_ddl : Opens tDdl 62 := by
  intro H enc w base spare held fuel cs y hy
  obtain ⟨xs, n, rfl, rfl, hlen, hxl0, hf⟩ := DataW.trod_struct Try.underlying62 hy
  have hxl : xs.length = 9 := hxl0
  have hC : Try.prog.cellsOf 62 = 11 := by kernel_rfl
  rw [hC] at hlen
  obtain ⟨z0, z1, z2, z3, z4, z5, z6, z7, z8, rfl⟩ : ∃ z0 z1 z2 z3 z4 z5 z6 z7 z8, xs = [z0, z1, z2, z3, z4, z5, z6, z7, z8] := by
    match xs, hxl with
    | [z0, z1, z2, z3, z4, z5, z6, z7, z8], _ => exact ⟨z0, z1, z2, z3, z4, z5, z6, z7, z8, rfl⟩
  have p0 := field_part (opens_int Try.underlying3) (by kernel_rfl) (hf 0 _ rfl)
  have p1 := field_part (opens_str Try.underlying9) (by kernel_rfl) (hf 1 _ rfl)
  have p2 := field_part (opens_str Try.underlying9) (by kernel_rfl) (hf 2 _ rfl)
  have p3 := field_part (opens_str Try.underlying9) (by kernel_rfl) (hf 3 _ rfl)
  have p4 := field_part (opens_str Try.underlying9) (by kernel_rfl) (hf 4 _ rfl)
  have p5 := field_part (opens_bool Try.underlying4) (by kernel_rfl) (hf 5 _ rfl)
  have p6 := field_part (opens_int Try.underlying3) (by kernel_rfl) (hf 6 _ rfl)
  have p7 := field_part opens_value (by kernel_rfl) (hf 7 _ rfl)
  have p8 := field_part (opens_list (e := tColumn) Try.underlying60 (by kernel_rfl) opens_column) (by kernel_rfl) (hf 8 _ rfl)
  obtain ⟨x, h1, h2, h3⟩ : Part w cs 0 tDdl _ := (Part.pair p0 (Part.pair (Part.pair p1 (Part.pair p2 (Part.pair p3 p4 rfl) rfl) rfl) (Part.pair p5 (Part.pair p6 (Part.pair p7 p8 rfl) rfl) rfl) rfl) rfl)
  have e : (cs.drop 0).take tDdl.sz = cs := by rw [List.drop_zero, List.take_of_length_le]; rw [hlen]; exact Nat.le_refl _
  rw [e] at h1
  refine ⟨x, h1, h2, Nat.le_trans h3 ?_⟩
  simp only [List.map_cons, List.map_nil, Rows.uptoBulk, Rows.uptoBulkAll]
  omega
theorem opens_index : Opens tIndex 202 := by
  intro H enc w base spare held fuel cs y hy
  obtain ⟨xs, n, rfl, rfl, hlen, hxl0, hf⟩ := DataW.trod_struct Try.underlying202 hy
  have hxl : xs.length = 5 := hxl0
  have hC : Try.prog.cellsOf 202 = 5 := by kernel_rfl
  rw [hC] at hlen
  obtain ⟨z0, z1, z2, z3, z4, rfl⟩ : ∃ z0 z1 z2 z3 z4, xs = [z0, z1, z2, z3, z4] := by
    match xs, hxl with
    | [z0, z1, z2, z3, z4], _ => exact ⟨z0, z1, z2, z3, z4, rfl⟩
  have p0 := field_part (opens_int Try.underlying3) (by kernel_rfl) (hf 0 _ rfl)
  have p1 := field_part (opens_str Try.underlying9) (by kernel_rfl) (hf 1 _ rfl)
  have p2 := field_part (opens_int Try.underlying3) (by kernel_rfl) (hf 2 _ rfl)
  have p3 := field_part (opens_bool Try.underlying4) (by kernel_rfl) (hf 3 _ rfl)
  have p4 := field_part (opens_int Try.underlying3) (by kernel_rfl) (hf 4 _ rfl)
  obtain ⟨x, h1, h2, h3⟩ : Part w cs 0 tIndex _ := (Part.pair p0 (Part.pair p1 (Part.pair p2 (Part.pair p3 p4 rfl) rfl) rfl) rfl)
  have e : (cs.drop 0).take tIndex.sz = cs := by rw [List.drop_zero, List.take_of_length_le]; rw [hlen]; exact Nat.le_refl _
  rw [e] at h1
  refine ⟨x, h1, h2, Nat.le_trans h3 ?_⟩
  simp only [List.map_cons, List.map_nil, Rows.uptoBulk, Rows.uptoBulkAll]
  omega
theorem opens_foreign : Opens tForeign 204 := by
  intro H enc w base spare held fuel cs y hy
  obtain ⟨xs, n, rfl, rfl, hlen, hxl0, hf⟩ := DataW.trod_struct Try.underlying204 hy
  have hxl : xs.length = 5 := hxl0
  have hC : Try.prog.cellsOf 204 = 5 := by kernel_rfl
  rw [hC] at hlen
  obtain ⟨z0, z1, z2, z3, z4, rfl⟩ : ∃ z0 z1 z2 z3 z4, xs = [z0, z1, z2, z3, z4] := by
    match xs, hxl with
    | [z0, z1, z2, z3, z4], _ => exact ⟨z0, z1, z2, z3, z4, rfl⟩
  have p0 := field_part (opens_int Try.underlying3) (by kernel_rfl) (hf 0 _ rfl)
  have p1 := field_part (opens_str Try.underlying9) (by kernel_rfl) (hf 1 _ rfl)
  have p2 := field_part (opens_int Try.underlying3) (by kernel_rfl) (hf 2 _ rfl)
  have p3 := field_part (opens_int Try.underlying3) (by kernel_rfl) (hf 3 _ rfl)
  have p4 := field_part (opens_int Try.underlying3) (by kernel_rfl) (hf 4 _ rfl)
  obtain ⟨x, h1, h2, h3⟩ : Part w cs 0 tForeign _ := (Part.pair p0 (Part.pair p1 (Part.pair p2 (Part.pair p3 p4 rfl) rfl) rfl) rfl)
  have e : (cs.drop 0).take tForeign.sz = cs := by rw [List.drop_zero, List.take_of_length_le]; rw [hlen]; exact Nat.le_refl _
  rw [e] at h1
  refine ⟨x, h1, h2, Nat.le_trans h3 ?_⟩
  simp only [List.map_cons, List.map_nil, Rows.uptoBulk, Rows.uptoBulkAll]
  omega
theorem opens_table : Opens tTable 84 := by
  intro H enc w base spare held fuel cs y hy
  obtain ⟨xs, n, rfl, rfl, hlen, hxl0, hf⟩ := DataW.trod_struct Try.underlying84 hy
  have hxl : xs.length = 5 := hxl0
  have hC : Try.prog.cellsOf 84 = 5 := by kernel_rfl
  rw [hC] at hlen
  obtain ⟨z0, z1, z2, z3, z4, rfl⟩ : ∃ z0 z1 z2 z3 z4, xs = [z0, z1, z2, z3, z4] := by
    match xs, hxl with
    | [z0, z1, z2, z3, z4], _ => exact ⟨z0, z1, z2, z3, z4, rfl⟩
  have p0 := field_part (opens_int Try.underlying3) (by kernel_rfl) (hf 0 _ rfl)
  have p1 := field_part (opens_str Try.underlying9) (by kernel_rfl) (hf 1 _ rfl)
  have p2 := field_part (opens_list (e := tColumn) Try.underlying60 (by kernel_rfl) opens_column) (by kernel_rfl) (hf 2 _ rfl)
  have p3 := field_part (opens_list (e := tIndex) Try.underlying81 (by kernel_rfl) opens_index) (by kernel_rfl) (hf 3 _ rfl)
  have p4 := field_part (opens_list (e := tForeign) Try.underlying82 (by kernel_rfl) opens_foreign) (by kernel_rfl) (hf 4 _ rfl)
  obtain ⟨x, h1, h2, h3⟩ : Part w cs 0 tTable _ := (Part.pair p0 (Part.pair p1 (Part.pair p2 (Part.pair p3 p4 rfl) rfl) rfl) rfl)
  have e : (cs.drop 0).take tTable.sz = cs := by rw [List.drop_zero, List.take_of_length_le]; rw [hlen]; exact Nat.le_refl _
  rw [e] at h1
  refine ⟨x, h1, h2, Nat.le_trans h3 ?_⟩
  simp only [List.map_cons, List.map_nil, Rows.uptoBulk, Rows.uptoBulkAll]
  omega
theorem opens_lease : Opens tLease 130 := by
  intro H enc w base spare held fuel cs y hy
  obtain ⟨xs, n, rfl, rfl, hlen, hxl0, hf⟩ := DataW.trod_struct Try.underlying130 hy
  have hxl : xs.length = 3 := hxl0
  have hC : Try.prog.cellsOf 130 = 3 := by kernel_rfl
  rw [hC] at hlen
  obtain ⟨z0, z1, z2, rfl⟩ : ∃ z0 z1 z2, xs = [z0, z1, z2] := by
    match xs, hxl with
    | [z0, z1, z2], _ => exact ⟨z0, z1, z2, rfl⟩
  have p0 := field_part (opens_int Try.underlying3) (by kernel_rfl) (hf 0 _ rfl)
  have p1 := field_part (opens_int Try.underlying3) (by kernel_rfl) (hf 1 _ rfl)
  have p2 := field_part (opens_int Try.underlying3) (by kernel_rfl) (hf 2 _ rfl)
  obtain ⟨x, h1, h2, h3⟩ : Part w cs 0 tLease _ := (Part.pair p0 (Part.pair p1 p2 rfl) rfl)
  have e : (cs.drop 0).take tLease.sz = cs := by rw [List.drop_zero, List.take_of_length_le]; rw [hlen]; exact Nat.le_refl _
  rw [e] at h1
  refine ⟨x, h1, h2, Nat.le_trans h3 ?_⟩
  simp only [List.map_cons, List.map_nil, Rows.uptoBulk, Rows.uptoBulkAll]
  omega
theorem opens_job : Opens tJob 86 := by
  intro H enc w base spare held fuel cs y hy
  obtain ⟨xs, n, rfl, rfl, hlen, hxl0, hf⟩ := DataW.trod_struct Try.underlying86 hy
  have hxl : xs.length = 10 := hxl0
  have hC : Try.prog.cellsOf 86 = 22 := by kernel_rfl
  rw [hC] at hlen
  obtain ⟨z0, z1, z2, z3, z4, z5, z6, z7, z8, z9, rfl⟩ : ∃ z0 z1 z2 z3 z4 z5 z6 z7 z8 z9, xs = [z0, z1, z2, z3, z4, z5, z6, z7, z8, z9] := by
    match xs, hxl with
    | [z0, z1, z2, z3, z4, z5, z6, z7, z8, z9], _ => exact ⟨z0, z1, z2, z3, z4, z5, z6, z7, z8, z9, rfl⟩
  have p0 := field_part (opens_int Try.underlying3) (by kernel_rfl) (hf 0 _ rfl)
  have p1 := field_part (opens_int Try.underlying3) (by kernel_rfl) (hf 1 _ rfl)
  have p2 := field_part opens_tid (by kernel_rfl) (hf 2 _ rfl)
  have p3 := field_part opens_ddl (by kernel_rfl) (hf 3 _ rfl)
  have p4 := field_part (opens_int Try.underlying3) (by kernel_rfl) (hf 4 _ rfl)
  have p5 := field_part (opens_bool Try.underlying4) (by kernel_rfl) (hf 5 _ rfl)
  have p6 := field_part (opens_bool Try.underlying4) (by kernel_rfl) (hf 6 _ rfl)
  have p7 := field_part (opens_str Try.underlying9) (by kernel_rfl) (hf 7 _ rfl)
  have p8 := field_part (opens_int Try.underlying3) (by kernel_rfl) (hf 8 _ rfl)
  have p9 := field_part (opens_int Try.underlying27) (by kernel_rfl) (hf 9 _ rfl)
  obtain ⟨x, h1, h2, h3⟩ : Part w cs 0 tJob _ := (Part.pair (Part.pair p0 p1 rfl) (Part.pair p2 (Part.pair p3 (Part.pair p4 (Part.pair p5 (Part.pair p6 (Part.pair p7 (Part.pair p8 p9 rfl) rfl) rfl) rfl) rfl) rfl) rfl) rfl)
  have e : (cs.drop 0).take tJob.sz = cs := by rw [List.drop_zero, List.take_of_length_le]; rw [hlen]; exact Nat.le_refl _
  rw [e] at h1
  refine ⟨x, h1, h2, Nat.le_trans h3 ?_⟩
  simp only [List.map_cons, List.map_nil, Rows.uptoBulk, Rows.uptoBulkAll]
  omega
theorem opens_schema : Opens tSchema 76 := by
  intro H enc w base spare held fuel cs y hy
  obtain ⟨xs, n, rfl, rfl, hlen, hxl0, hf⟩ := DataW.trod_struct Try.underlying76 hy
  have hxl : xs.length = 3 := hxl0
  have hC : Try.prog.cellsOf 76 = 3 := by kernel_rfl
  rw [hC] at hlen
  obtain ⟨z0, z1, z2, rfl⟩ : ∃ z0 z1 z2, xs = [z0, z1, z2] := by
    match xs, hxl with
    | [z0, z1, z2], _ => exact ⟨z0, z1, z2, rfl⟩
  have p0 := field_part (opens_int Try.underlying3) (by kernel_rfl) (hf 0 _ rfl)
  have p1 := field_part (opens_int Try.underlying3) (by kernel_rfl) (hf 1 _ rfl)
  have p2 := field_part (opens_list (e := tTable) Try.underlying74 (by kernel_rfl) opens_table) (by kernel_rfl) (hf 2 _ rfl)
  obtain ⟨x, h1, h2, h3⟩ : Part w cs 0 tSchema _ := (Part.pair (Part.pair p0 p1 rfl) p2 rfl)
  have e : (cs.drop 0).take tSchema.sz = cs := by rw [List.drop_zero, List.take_of_length_le]; rw [hlen]; exact Nat.le_refl _
  rw [e] at h1
  refine ⟨x, h1, h2, Nat.le_trans h3 ?_⟩
  simp only [List.map_cons, List.map_nil, Rows.uptoBulk, Rows.uptoBulkAll]
  omega
theorem opens_plan : Opens tPlan 80 := by
  intro H enc w base spare held fuel cs y hy
  obtain ⟨xs, n, rfl, rfl, hlen, hxl0, hf⟩ := DataW.trod_struct Try.underlying80 hy
  have hxl : xs.length = 3 := hxl0
  have hC : Try.prog.cellsOf 80 = 5 := by kernel_rfl
  rw [hC] at hlen
  obtain ⟨z0, z1, z2, rfl⟩ : ∃ z0 z1 z2, xs = [z0, z1, z2] := by
    match xs, hxl with
    | [z0, z1, z2], _ => exact ⟨z0, z1, z2, rfl⟩
  have p0 := field_part opens_schema (by kernel_rfl) (hf 0 _ rfl)
  have p1 := field_part (opens_list (e := tLease) Try.underlying77 (by kernel_rfl) opens_lease) (by kernel_rfl) (hf 1 _ rfl)
  have p2 := field_part (opens_list (e := tJob) Try.underlying78 (by kernel_rfl) opens_job) (by kernel_rfl) (hf 2 _ rfl)
  obtain ⟨x, h1, h2, h3⟩ : Part w cs 0 (.pair tSchema (.pair (.list tLease) (.list tJob))) _ := (Part.pair p0 (Part.pair p1 p2 rfl) rfl)
  have e : (cs.drop 0).take (Ty.pair tSchema (.pair (.list tLease) (.list tJob))).sz = cs := by rw [List.drop_zero, List.take_of_length_le]; rw [hlen]; exact Nat.le_refl _
  rw [e] at h1
  obtain ⟨⟨a, t⟩, l, j⟩ := x
  obtain ⟨c1, c2, hcs, g1, g2⟩ := h1
  obtain ⟨d1, d2, hc1, k1, k2⟩ := g1
  have e2 : tPlan.cod.enc (a, (t, (l, j))) = (Ty.pair tSchema (.pair (.list tLease) (.list tJob))).cod.enc ((a, t), (l, j)) := by
    show (ints 1).cod.enc a ++ ((Ty.list tTable).cod.enc t ++ ((Ty.list tLease).cod.enc l ++ (Ty.list tJob).cod.enc j)) = ((ints 1).cod.enc a ++ (Ty.list tTable).cod.enc t) ++ ((Ty.list tLease).cod.enc l ++ (Ty.list tJob).cod.enc j)
    rw [List.append_assoc]
  refine ⟨(a, (t, (l, j))), ⟨d1, d2 ++ c2, by rw [hcs, hc1, List.append_assoc], k1, d2, c2, rfl, k2, g2⟩, ⟨h2.1.1, h2.1.2, h2.2⟩, ?_⟩
  rw [e2]
  refine Nat.le_trans h3 ?_
  simp only [List.map_cons, List.map_nil, Rows.uptoBulk, Rows.uptoBulkAll]
  omega
end Go.Proofs.Ytlcgkcmicklihaa.Wire
