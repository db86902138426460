/- What comes in of a shard's state reads as a value of its kind. -/
import Derived.Test.YtlcgkcmicklihaaArgs
import Derived.Test.YtlcgkcmicklihaaHState
namespace Go.Proofs.Ytlcgkcmicklihaa.Wire
set_option linter.unusedVariables false
set_option linter.unusedSimpArgs false
open Go.RowKit Go.Proofs.YtlcgkcmicklihaaW.PrintWords Go.Proofs.YtlcgkcmicklihaaW.PrintLast Go.Proofs.YtlcgkcmicklihaaW.PrintMore
theorem opens_tid : Opens tTid 48 := by
  intro H enc w base spare held fuel cs y hy
  obtain ⟨xs, n, rfl, rfl, hlen, hxl0, hf⟩ := DataW.trod_struct Try.underlying48 hy
  have hxl : xs.length = 3 := hxl0
  have hC : Try.prog.cellsOf 48 = 3 := by kernel_rfl
  rw [hC] at hlen
  obtain ⟨z0, z1, z2, rfl⟩ : ∃ z0 z1 z2, xs = [z0, z1, z2] := by
    match xs, hxl with
    | [z0, z1, z2], _ => exact ⟨z0, z1, z2, rfl⟩
  have p0 := field_part (opens_int Try.underlying3) (by kernel_rfl) (hf 0 _ rfl)
  have p1 := field_part (opens_int Try.underlying3) (by kernel_rfl) (hf 1 _ rfl)
  have p2 := field_part (opens_int Try.underlying3) (by kernel_rfl) (hf 2 _ rfl)
  obtain ⟨x, h1, h2, h3⟩ : Part w cs 0 tTid _ := (Part.pair p0 (Part.pair p1 p2 rfl) rfl)
  have e : (cs.drop 0).take tTid.sz = cs := by rw [List.drop_zero, List.take_of_length_le]; rw [hlen]; exact Nat.le_refl _
  rw [e] at h1
  refine ⟨x, h1, h2, Nat.le_trans h3 ?_⟩
  simp only [List.map_cons, List.map_nil, Rows.uptoBulk, Rows.uptoBulkAll]
  omega
theorem opens_version : Opens tVersion 166 := by
  intro H enc w base spare held fuel cs y hy
  obtain ⟨xs, n, rfl, rfl, hlen, hxl0, hf⟩ := DataW.trod_struct Try.underlying166 hy
  have hxl : xs.length = 3 := hxl0
  have hC : Try.prog.cellsOf 166 = 3 := by kernel_rfl
  rw [hC] at hlen
  obtain ⟨z0, z1, z2, rfl⟩ : ∃ z0 z1 z2, xs = [z0, z1, z2] := by
    match xs, hxl with
    | [z0, z1, z2], _ => exact ⟨z0, z1, z2, rfl⟩
  have p0 := field_part (opens_int Try.underlying3) (by kernel_rfl) (hf 0 _ rfl)
  have p1 := field_part (opens_str Try.underlying9) (by kernel_rfl) (hf 1 _ rfl)
  have p2 := field_part (opens_bool Try.underlying4) (by kernel_rfl) (hf 2 _ rfl)
  obtain ⟨x, h1, h2, h3⟩ : Part w cs 0 tVersion _ := (Part.pair p0 (Part.pair p1 p2 rfl) rfl)
  have e : (cs.drop 0).take tVersion.sz = cs := by rw [List.drop_zero, List.take_of_length_le]; rw [hlen]; exact Nat.le_refl _
  rw [e] at h1
  refine ⟨x, h1, h2, Nat.le_trans h3 ?_⟩
  simp only [List.map_cons, List.map_nil, Rows.uptoBulk, Rows.uptoBulkAll]
  omega
theorem opens_row : Opens tRow 46 := by
  intro H enc w base spare held fuel cs y hy
  obtain ⟨xs, n, rfl, rfl, hlen, hxl0, hf⟩ := DataW.trod_struct Try.underlying46 hy
  have hxl : xs.length = 2 := hxl0
  have hC : Try.prog.cellsOf 46 = 2 := by kernel_rfl
  rw [hC] at hlen
  obtain ⟨z0, z1, rfl⟩ : ∃ z0 z1, xs = [z0, z1] := by
    match xs, hxl with
    | [z0, z1], _ => exact ⟨z0, z1, rfl⟩
  have p0 := field_part (opens_str Try.underlying9) (by kernel_rfl) (hf 0 _ rfl)
  have p1 := field_part (opens_list (e := tVersion) Try.underlying44 (by kernel_rfl) opens_version) (by kernel_rfl) (hf 1 _ rfl)
  obtain ⟨x, h1, h2, h3⟩ : Part w cs 0 tRow _ := (Part.pair p0 p1 rfl)
  have e : (cs.drop 0).take tRow.sz = cs := by rw [List.drop_zero, List.take_of_length_le]; rw [hlen]; exact Nat.le_refl _
  rw [e] at h1
  refine ⟨x, h1, h2, Nat.le_trans h3 ?_⟩
  simp only [List.map_cons, List.map_nil, Rows.uptoBulk, Rows.uptoBulkAll]
  omega
theorem opens_span : Opens tSpan 66 := by
  intro H enc w base spare held fuel cs y hy
  obtain ⟨xs, n, rfl, rfl, hlen, hxl0, hf⟩ := DataW.trod_struct Try.underlying66 hy
  have hxl : xs.length = 2 := hxl0
  have hC : Try.prog.cellsOf 66 = 2 := by kernel_rfl
  rw [hC] at hlen
  obtain ⟨z0, z1, rfl⟩ : ∃ z0 z1, xs = [z0, z1] := by
    match xs, hxl with
    | [z0, z1], _ => exact ⟨z0, z1, rfl⟩
  have p0 := field_part (opens_str Try.underlying9) (by kernel_rfl) (hf 0 _ rfl)
  have p1 := field_part (opens_str Try.underlying9) (by kernel_rfl) (hf 1 _ rfl)
  obtain ⟨x, h1, h2, h3⟩ : Part w cs 0 tSpan _ := (Part.pair p0 p1 rfl)
  have e : (cs.drop 0).take tSpan.sz = cs := by rw [List.drop_zero, List.take_of_length_le]; rw [hlen]; exact Nat.le_refl _
  rw [e] at h1
  refine ⟨x, h1, h2, Nat.le_trans h3 ?_⟩
  simp only [List.map_cons, List.map_nil, Rows.uptoBulk, Rows.uptoBulkAll]
  omega
theorem opens_write : Opens tWrite 176 := by
  intro H enc w base spare held fuel cs y hy
  obtain ⟨xs, n, rfl, rfl, hlen, hxl0, hf⟩ := DataW.trod_struct Try.underlying176 hy
  have hxl : xs.length = 3 := hxl0
  have hC : Try.prog.cellsOf 176 = 3 := by kernel_rfl
  rw [hC] at hlen
  obtain ⟨z0, z1, z2, rfl⟩ : ∃ z0 z1 z2, xs = [z0, z1, z2] := by
    match xs, hxl with
    | [z0, z1, z2], _ => exact ⟨z0, z1, z2, rfl⟩
  have p0 := field_part (opens_str Try.underlying9) (by kernel_rfl) (hf 0 _ rfl)
  have p1 := field_part (opens_str Try.underlying9) (by kernel_rfl) (hf 1 _ rfl)
  have p2 := field_part (opens_bool Try.underlying4) (by kernel_rfl) (hf 2 _ rfl)
  obtain ⟨x, h1, h2, h3⟩ : Part w cs 0 tWrite _ := (Part.pair (Part.pair p0 p1 rfl) p2 rfl)
  have e : (cs.drop 0).take tWrite.sz = cs := by rw [List.drop_zero, List.take_of_length_le]; rw [hlen]; exact Nat.le_refl _
  rw [e] at h1
  refine ⟨x, h1, h2, Nat.le_trans h3 ?_⟩
  simp only [List.map_cons, List.map_nil, Rows.uptoBulk, Rows.uptoBulkAll]
  omega
theorem opens_lock : Opens tLock 52 := by
  intro H enc w base spare held fuel cs y hy
  obtain ⟨xs, n, rfl, rfl, hlen, hxl0, hf⟩ := DataW.trod_struct Try.underlying52 hy
  have hxl : xs.length = 5 := hxl0
  have hC : Try.prog.cellsOf 52 = 7 := by kernel_rfl
  rw [hC] at hlen
  obtain ⟨z0, z1, z2, z3, z4, rfl⟩ : ∃ z0 z1 z2 z3 z4, xs = [z0, z1, z2, z3, z4] := by
    match xs, hxl with
    | [z0, z1, z2, z3, z4], _ => exact ⟨z0, z1, z2, z3, z4, rfl⟩
  have p0 := field_part opens_tid (by kernel_rfl) (hf 0 _ rfl)
  have p1 := field_part (opens_int Try.underlying3) (by kernel_rfl) (hf 1 _ rfl)
  have p2 := field_part (opens_int Try.underlying3) (by kernel_rfl) (hf 2 _ rfl)
  have p3 := field_part (opens_list (e := tSpan) Try.underlying49 (by kernel_rfl) opens_span) (by kernel_rfl) (hf 3 _ rfl)
  have p4 := field_part (opens_list (e := tWrite) Try.underlying50 (by kernel_rfl) opens_write) (by kernel_rfl) (hf 4 _ rfl)
  obtain ⟨x, h1, h2, h3⟩ : Part w cs 0 tLock _ := (Part.pair p0 (Part.pair (Part.pair p1 p2 rfl) (Part.pair p3 p4 rfl) rfl) rfl)
  have e : (cs.drop 0).take tLock.sz = cs := by rw [List.drop_zero, List.take_of_length_le]; rw [hlen]; exact Nat.le_refl _
  rw [e] at h1
  refine ⟨x, h1, h2, Nat.le_trans h3 ?_⟩
  simp only [List.map_cons, List.map_nil, Rows.uptoBulk, Rows.uptoBulkAll]
  omega
theorem opens_record : Opens tRecord 116 := by
  intro H enc w base spare held fuel cs y hy
  obtain ⟨xs, n, rfl, rfl, hlen, hxl0, hf⟩ := DataW.trod_struct Try.underlying116 hy
  have hxl : xs.length = 2 := hxl0
  have hC : Try.prog.cellsOf 116 = 4 := by kernel_rfl
  rw [hC] at hlen
  obtain ⟨z0, z1, rfl⟩ : ∃ z0 z1, xs = [z0, z1] := by
    match xs, hxl with
    | [z0, z1], _ => exact ⟨z0, z1, rfl⟩
  have p0 := field_part opens_tid (by kernel_rfl) (hf 0 _ rfl)
  have p1 := field_part (opens_int Try.underlying3) (by kernel_rfl) (hf 1 _ rfl)
  obtain ⟨x, h1, h2, h3⟩ : Part w cs 0 tRecord _ := (Part.pair p0 p1 rfl)
  have e : (cs.drop 0).take tRecord.sz = cs := by rw [List.drop_zero, List.take_of_length_le]; rw [hlen]; exact Nat.le_refl _
  rw [e] at h1
  refine ⟨x, h1, h2, Nat.le_trans h3 ?_⟩
  simp only [List.map_cons, List.map_nil, Rows.uptoBulk, Rows.uptoBulkAll]
  omega
theorem opens_state : Opens tState 43 := by
  intro H enc w base spare held fuel cs y hy
  obtain ⟨xs, n, rfl, rfl, hlen, hxl0, hf⟩ := DataW.trod_struct Try.underlying43 hy
  have hxl : xs.length = 5 := hxl0
  have hC : Try.prog.cellsOf 43 = 5 := by kernel_rfl
  rw [hC] at hlen
  obtain ⟨z0, z1, z2, z3, z4, rfl⟩ : ∃ z0 z1 z2 z3 z4, xs = [z0, z1, z2, z3, z4] := by
    match xs, hxl with
    | [z0, z1, z2, z3, z4], _ => exact ⟨z0, z1, z2, z3, z4, rfl⟩
  have p0 := field_part (opens_list (e := tRow) Try.underlying38 (by kernel_rfl) opens_row) (by kernel_rfl) (hf 0 _ rfl)
  have p1 := field_part (opens_list (e := tLock) Try.underlying39 (by kernel_rfl) opens_lock) (by kernel_rfl) (hf 1 _ rfl)
  have p2 := field_part (opens_list (e := tRecord) Try.underlying40 (by kernel_rfl) opens_record) (by kernel_rfl) (hf 2 _ rfl)
  have p3 := field_part (opens_list (e := tTid) Try.underlying41 (by kernel_rfl) opens_tid) (by kernel_rfl) (hf 3 _ rfl)
  have p4 := field_part (opens_int Try.underlying3) (by kernel_rfl) (hf 4 _ rfl)
  obtain ⟨x, h1, h2, h3⟩ : Part w cs 0 tState _ := (Part.pair p0 (Part.pair p1 (Part.pair p2 (Part.pair p3 p4 rfl) rfl) rfl) rfl)
  have e : (cs.drop 0).take tState.sz = cs := by rw [List.drop_zero, List.take_of_length_le]; rw [hlen]; exact Nat.le_refl _
  rw [e] at h1
  refine ⟨x, h1, h2, Nat.le_trans h3 ?_⟩
  simp only [List.map_cons, List.map_nil, Rows.uptoBulk, Rows.uptoBulkAll]
  omega
end Go.Proofs.Ytlcgkcmicklihaa.Wire
