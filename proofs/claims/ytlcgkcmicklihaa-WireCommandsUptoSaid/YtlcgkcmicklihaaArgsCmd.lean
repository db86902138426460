/- What comes in of a command reads as a value of its kind. -/
import Derived.Test.YtlcgkcmicklihaaArgs
import Derived.Test.YtlcgkcmicklihaaHCmd
namespace Go.Proofs.Ytlcgkcmicklihaa.Wire
set_option linter.unusedVariables false
set_option linter.unusedSimpArgs false
open Go.RowKit Go.Proofs.YtlcgkcmicklihaaW.PrintWords Go.Proofs.YtlcgkcmicklihaaW.PrintLast Go.Proofs.YtlcgkcmicklihaaW.PrintMore
theorem opens_tid : Opens tTid 48 := by
  intro H enc w base spare held fuel cs y hy
  obtain ⟨xs, n, rfl, rfl, hlen, hxl0, hf⟩ := DataW.trod_struct Try.underlying48 hy
  have hxl : xs.length = 3 := hxl0
  have hC : Try.prog.cellsOf 48 = 3 := by kernel_rfl
  rw [hC] at hlen
  obtain ⟨z0, z1, z2, rfl⟩ : ∃ z0 z1 z2, xs = [z0, z1, z2] := by
    match xs, hxl with
    | [z0, z1, z2], _ => exact ⟨z0, z1, z2, rfl⟩
  have p0 := field_part (opens_int Try.underlying3) (by kernel_rfl) (hf 0 _ rfl)
  have p1 := field_part (opens_int Try.underlying3) (by kernel_rfl) (hf 1 _ rfl)
  have p2 := field_part (opens_int Try.underlying3) (by kernel_rfl) (hf 2 _ rfl)
  obtain ⟨x, h1, h2, h3⟩ : Part w cs 0 tTid _ := (Part.pair p0 (Part.pair p1 p2 rfl) rfl)
  have e : (cs.drop 0).take tTid.sz = cs := by rw [List.drop_zero, List.take_of_length_le]; rw [hlen]; exact Nat.le_refl _
  rw [e] at h1
  refine ⟨x, h1, h2, Nat.le_trans h3 ?_⟩
  simp only [List.map_cons, List.map_nil, Rows.uptoBulk, Rows.uptoBulkAll]
  omega
theorem opens_span : Opens tSpan 66 := by
  intro H enc w base spare held fuel cs y hy
  obtain ⟨xs, n, rfl, rfl, hlen, hxl0, hf⟩ := DataW.trod_struct Try.underlying66 hy
  have hxl : xs.length = 2 := hxl0
  have hC : Try.prog.cellsOf 66 = 2 := by kernel_rfl
  rw [hC] at hlen
  obtain ⟨z0, z1, rfl⟩ : ∃ z0 z1, xs = [z0, z1] := by
    match xs, hxl with
    | [z0, z1], _ => exact ⟨z0, z1, rfl⟩
  have p0 := field_part (opens_str Try.underlying9) (by kernel_rfl) (hf 0 _ rfl)
  have p1 := field_part (opens_str Try.underlying9) (by kernel_rfl) (hf 1 _ rfl)
  obtain ⟨x, h1, h2, h3⟩ : Part w cs 0 tSpan _ := (Part.pair p0 p1 rfl)
  have e : (cs.drop 0).take tSpan.sz = cs := by rw [List.drop_zero, List.take_of_length_le]; rw [hlen]; exact Nat.le_refl _
  rw [e] at h1
  refine ⟨x, h1, h2, Nat.le_trans h3 ?_⟩
  simp only [List.map_cons, List.map_nil, Rows.uptoBulk, Rows.uptoBulkAll]
  omega
theorem opens_write : Opens tWrite 176 := by
  intro H enc w base spare held fuel cs y hy
  obtain ⟨xs, n, rfl, rfl, hlen, hxl0, hf⟩ := DataW.trod_struct Try.underlying176 hy
  have hxl : xs.length = 3 := hxl0
  have hC : Try.prog.cellsOf 176 = 3 := by kernel_rfl
  rw [hC] at hlen
  obtain ⟨z0, z1, z2, rfl⟩ : ∃ z0 z1 z2, xs = [z0, z1, z2] := by
    match xs, hxl with
    | [z0, z1, z2], _ => exact ⟨z0, z1, z2, rfl⟩
  have p0 := field_part (opens_str Try.underlying9) (by kernel_rfl) (hf 0 _ rfl)
  have p1 := field_part (opens_str Try.underlying9) (by kernel_rfl) (hf 1 _ rfl)
  have p2 := field_part (opens_bool Try.underlying4) (by kernel_rfl) (hf 2 _ rfl)
  obtain ⟨x, h1, h2, h3⟩ : Part w cs 0 tWrite _ := (Part.pair (Part.pair p0 p1 rfl) p2 rfl)
  have e : (cs.drop 0).take tWrite.sz = cs := by rw [List.drop_zero, List.take_of_length_le]; rw [hlen]; exact Nat.le_refl _
  rw [e] at h1
  refine ⟨x, h1, h2, Nat.le_trans h3 ?_⟩
  simp only [List.map_cons, List.map_nil, Rows.uptoBulk, Rows.uptoBulkAll]
  omega
theorem opens_stamp : Opens tStamp 185 := by
  intro H enc w base spare held fuel cs y hy
  obtain ⟨xs, n, rfl, rfl, hlen, hxl0, hf⟩ := DataW.trod_struct Try.underlying185 hy
  have hxl : xs.length = 2 := hxl0
  have hC : Try.prog.cellsOf 185 = 2 := by kernel_rfl
  rw [hC] at hlen
  obtain ⟨z0, z1, rfl⟩ : ∃ z0 z1, xs = [z0, z1] := by
    match xs, hxl with
    | [z0, z1], _ => exact ⟨z0, z1, rfl⟩
  have p0 := field_part (opens_str Try.underlying9) (by kernel_rfl) (hf 0 _ rfl)
  have p1 := field_part (opens_int Try.underlying3) (by kernel_rfl) (hf 1 _ rfl)
  obtain ⟨x, h1, h2, h3⟩ : Part w cs 0 tStamp _ := (Part.pair p0 p1 rfl)
  have e : (cs.drop 0).take tStamp.sz = cs := by rw [List.drop_zero, List.take_of_length_le]; rw [hlen]; exact Nat.le_refl _
  rw [e] at h1
  refine ⟨x, h1, h2, Nat.le_trans h3 ?_⟩
  simp only [List.map_cons, List.map_nil, Rows.uptoBulk, Rows.uptoBulkAll]
  omega
theorem opens_reading : Opens tReading 69 := by
  intro H enc w base spare held fuel cs y hy
  obtain ⟨xs, n, rfl, rfl, hlen, hxl0, hf⟩ := DataW.trod_struct Try.underlying69 hy
  have hxl : xs.length = 2 := hxl0
  have hC : Try.prog.cellsOf 69 = 3 := by kernel_rfl
  rw [hC] at hlen
  obtain ⟨z0, z1, rfl⟩ : ∃ z0 z1, xs = [z0, z1] := by
    match xs, hxl with
    | [z0, z1], _ => exact ⟨z0, z1, rfl⟩
  have p0 := field_part opens_span (by kernel_rfl) (hf 0 _ rfl)
  have p1 := field_part (opens_list (e := tStamp) Try.underlying67 (by kernel_rfl) opens_stamp) (by kernel_rfl) (hf 1 _ rfl)
  obtain ⟨x, h1, h2, h3⟩ : Part w cs 0 tReading _ := (Part.pair p0 p1 rfl)
  have e : (cs.drop 0).take tReading.sz = cs := by rw [List.drop_zero, List.take_of_length_le]; rw [hlen]; exact Nat.le_refl _
  rw [e] at h1
  refine ⟨x, h1, h2, Nat.le_trans h3 ?_⟩
  simp only [List.map_cons, List.map_nil, Rows.uptoBulk, Rows.uptoBulkAll]
  omega
theorem opens_value : Opens tValue 59 := by
  intro H enc w base spare held fuel cs y hy
  obtain ⟨xs, n, rfl, rfl, hlen, hxl0, hf⟩ := DataW.trod_struct Try.underlying59 hy
  have hxl : xs.length = 3 := hxl0
  have hC : Try.prog.cellsOf 59 = 3 := by kernel_rfl
  rw [hC] at hlen
  obtain ⟨z0, z1, z2, rfl⟩ : ∃ z0 z1 z2, xs = [z0, z1, z2] := by
    match xs, hxl with
    | [z0, z1, z2], _ => exact ⟨z0, z1, z2, rfl⟩
  have p0 := field_part (opens_int Try.underlying3) (by kernel_rfl) (hf 0 _ rfl)
  have p1 := field_part (opens_int Try.underlying2) (by kernel_rfl) (hf 1 _ rfl)
  have p2 := field_part (opens_str Try.underlying9) (by kernel_rfl) (hf 2 _ rfl)
  obtain ⟨x, h1, h2, h3⟩ : Part w cs 0 tValue _ := (Part.pair p0 (Part.pair p1 p2 rfl) rfl)
  have e : (cs.drop 0).take tValue.sz = cs := by rw [List.drop_zero, List.take_of_length_le]; rw [hlen]; exact Nat.le_refl _
  rw [e] at h1
  refine ⟨x, h1, h2, Nat.le_trans h3 ?_⟩
  simp only [List.map_cons, List.map_nil, Rows.uptoBulk, Rows.uptoBulkAll]
  omega
theorem opens_column : Opens tColumn 232 := by
  intro H enc w base spare held fuel cs y hy
  obtain ⟨xs, n, rfl, rfl, hlen, hxl0, hf⟩ := DataW.trod_struct Try.underlying232 hy
  have hxl : xs.length = 5 := hxl0
  have hC : Try.prog.cellsOf 232 = 7 := by kernel_rfl
  rw [hC] at hlen
  obtain ⟨z0, z1, z2, z3, z4, rfl⟩ : ∃ z0 z1 z2 z3 z4, xs = [z0, z1, z2, z3, z4] := by
    match xs, hxl with
    | [z0, z1, z2, z3, z4], _ => exact ⟨z0, z1, z2, z3, z4, rfl⟩
  have p0 := field_part (opens_int Try.underlying3) (by kernel_rfl) (hf 0 _ rfl)
  have p1 := field_part (opens_str Try.underlying9) (by kernel_rfl) (hf 1 _ rfl)
  have p2 := field_part (opens_int Try.underlying3) (by kernel_rfl) (hf 2 _ rfl)
  have p3 := field_part (opens_int Try.underlying3) (by kernel_rfl) (hf 3 _ rfl)
  have p4 := field_part opens_value (by kernel_rfl) (hf 4 _ rfl)
  obtain ⟨x, h1, h2, h3⟩ : Part w cs 0 tColumn _ := (Part.pair p0 (Part.pair p1 (Part.pair (Part.pair p2 p3 rfl) p4 rfl) rfl) rfl)
  have e : (cs.drop 0).take tColumn.sz = cs := by rw [List.drop_zero, List.take_of_length_le]; rw [hlen]; exact Nat.le_refl _
  rw [e] at h1
  refine ⟨x, h1, h2, Nat.le_trans h3 ?_⟩
  simp only [List.map_cons, List.map_nil, Rows.uptoBulk, Rows.uptoBulkAll]
  omega
theorem opens_ddl : Opens tDdl 62 := by
  intro H enc w base spare held fuel cs y hy
  obtain ⟨xs, n, rfl, rfl, hlen, hxl0, hf⟩ := DataW.trod_struct Try.underlying62 hy
  have hxl : xs.length = 9 := hxl0
  have hC : Try.prog.cellsOf 62 = 11 := by kernel_rfl
  rw [hC] at hlen
  obtain ⟨z0, z1, z2, z3, z4, z5, z6, z7, z8, rfl⟩ : ∃ z0 z1 z2 z3 z4 z5 z6 z7 z8, xs = [z0, z1, z2, z3, z4, z5, z6, z7, z8] := by
    match xs, hxl with
    | [z0, z1, z2, z3, z4, z5, z6, z7, z8], _ => exact ⟨z0, z1, z2, z3, z4, z5, z6, z7, z8, rfl⟩
  have p0 := field_part (opens_int Try.underlying3) (by kernel_rfl) (hf 0 _ rfl)
  have p1 := field_part (opens_str Try.underlying9) (by kernel_rfl) (hf 1 _ rfl)
  have p2 := field_part (opens_str Try.underlying9) (by kernel_rfl) (hf 2 _ rfl)
  have p3 := field_part (opens_str Try.underlying9) (by kernel_rfl) (hf 3 _ rfl)
  have p4 := field_part (opens_str Try.underlying9) (by kernel_rfl) (hf 4 _ rfl)
  have p5 := field_part (opens_bool Try.underlying4) (by kernel_rfl) (hf 5 _ rfl)
  have p6 := field_part (opens_int Try.underlying3) (by kernel_rfl) (hf 6 _ rfl)
  have p7 := field_part opens_value (by kernel_rfl) (hf 7 _ rfl)
  have p8 := field_part (opens_list (e := tColumn) Try.underlying60 (by kernel_rfl) opens_column) (by kernel_rfl) (hf 8 _ rfl)
  obtain ⟨x, h1, h2, h3⟩ : Part w cs 0 tDdl _ := (Part.pair p0 (Part.pair (Part.pair p1 (Part.pair p2 (Part.pair p3 p4 rfl) rfl) rfl) (Part.pair p5 (Part.pair p6 (Part.pair p7 p8 rfl) rfl) rfl) rfl) rfl)
  have e : (cs.drop 0).take tDdl.sz = cs := by rw [List.drop_zero, List.take_of_length_le]; rw [hlen]; exact Nat.le_refl _
  rw [e] at h1
  refine ⟨x, h1, h2, Nat.le_trans h3 ?_⟩
  simp only [List.map_cons, List.map_nil, Rows.uptoBulk, Rows.uptoBulkAll]
  omega
theorem opens_command : Opens tCommand 64 := by
  intro H enc w base spare held fuel cs y hy
  obtain ⟨xs, n, rfl, rfl, hlen, hxl0, hf⟩ := DataW.trod_struct Try.underlying64 hy
  have hxl : xs.length = 16 := hxl0
  have hC : Try.prog.cellsOf 64 = 30 := by kernel_rfl
  rw [hC] at hlen
  obtain ⟨z0, z1, z2, z3, z4, z5, z6, z7, z8, z9, z10, z11, z12, z13, z14, z15, rfl⟩ : ∃ z0 z1 z2 z3 z4 z5 z6 z7 z8 z9 z10 z11 z12 z13 z14 z15, xs = [z0, z1, z2, z3, z4, z5, z6, z7, z8, z9, z10, z11, z12, z13, z14, z15] := by
    match xs, hxl with
    | [z0, z1, z2, z3, z4, z5, z6, z7, z8, z9, z10, z11, z12, z13, z14, z15], _ => exact ⟨z0, z1, z2, z3, z4, z5, z6, z7, z8, z9, z10, z11, z12, z13, z14, z15, rfl⟩
  have p0 := field_part (opens_int Try.underlying3) (by kernel_rfl) (hf 0 _ rfl)
  have p1 := field_part opens_tid (by kernel_rfl) (hf 1 _ rfl)
  have p2 := field_part opens_tid (by kernel_rfl) (hf 2 _ rfl)
  have p3 := field_part (opens_int Try.underlying3) (by kernel_rfl) (hf 3 _ rfl)
  have p4 := field_part (opens_list (e := tReading) Try.underlying57 (by kernel_rfl) opens_reading) (by kernel_rfl) (hf 4 _ rfl)
  have p5 := field_part (opens_list (e := tWrite) Try.underlying50 (by kernel_rfl) opens_write) (by kernel_rfl) (hf 5 _ rfl)
  have p6 := field_part (opens_int Try.underlying3) (by kernel_rfl) (hf 6 _ rfl)
  have p7 := field_part (opens_int Try.underlying3) (by kernel_rfl) (hf 7 _ rfl)
  have p8 := field_part (opens_int Try.underlying3) (by kernel_rfl) (hf 8 _ rfl)
  have p9 := field_part (opens_int Try.underlying3) (by kernel_rfl) (hf 9 _ rfl)
  have p10 := field_part (opens_int Try.underlying3) (by kernel_rfl) (hf 10 _ rfl)
  have p11 := field_part opens_ddl (by kernel_rfl) (hf 11 _ rfl)
  have p12 := field_part (opens_int Try.underlying3) (by kernel_rfl) (hf 12 _ rfl)
  have p13 := field_part (opens_int Try.underlying3) (by kernel_rfl) (hf 13 _ rfl)
  have p14 := field_part (opens_str Try.underlying9) (by kernel_rfl) (hf 14 _ rfl)
  have p15 := field_part (opens_int Try.underlying27) (by kernel_rfl) (hf 15 _ rfl)
  obtain ⟨x, h1, h2, h3⟩ : Part w cs 0 tCommand _ := (Part.pair p0 (Part.pair p1 (Part.pair p2 (Part.pair p3 (Part.pair p4 (Part.pair p5 (Part.pair (Part.pair p6 (Part.pair p7 (Part.pair p8 (Part.pair p9 p10 rfl) rfl) rfl) rfl) (Part.pair p11 (Part.pair (Part.pair p12 p13 rfl) (Part.pair p14 p15 rfl) rfl) rfl) rfl) rfl) rfl) rfl) rfl) rfl) rfl)
  have e : (cs.drop 0).take tCommand.sz = cs := by rw [List.drop_zero, List.take_of_length_le]; rw [hlen]; exact Nat.le_refl _
  rw [e] at h1
  refine ⟨x, h1, h2, Nat.le_trans h3 ?_⟩
  simp only [List.map_cons, List.map_nil, Rows.uptoBulk, Rows.uptoBulkAll]
  omega
end Go.Proofs.Ytlcgkcmicklihaa.Wire
