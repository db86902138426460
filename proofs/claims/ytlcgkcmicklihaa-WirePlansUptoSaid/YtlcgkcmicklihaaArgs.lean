/- Arguments of the laws over the wire: what comes in reads as a value of its kind; its bytes are few, where its bulk is small. -/
import Derived.Test.YtlcgkcmicklihaaRows
import Derived.Test.YtlcgkcmicklihaaMMsg
import Derived.ProofKit
import Derived.OpenShut
import Derived.ShutString
import Derived.ChangeOld
import Derived.Carry
import Derived.Lib.SmallJoins
import Derived.Deep.Slices
import Derived.JoinedCond
namespace Go.Proofs.Ytlcgkcmicklihaa.Wire
set_option linter.unusedVariables false
set_option linter.unusedSimpArgs false
open Go.ChangeShapes Go.WideShapes Go.ChangeAt Go.RowKit Go.Deep Go.Proofs.YtlcgkcmicklihaaW.PrintWords
theorem own : ownKnob Try.prog.godebug = none := by kernel_rfl
theorem laidOut : laidOutB Try.prog = true := by kernel_rfl
/-- What is read as type tid is a value of kind t. -/
def Opens (t : Ty) (tid : TypeId) : Prop := ∀ {H : Type} {enc : TypeId × Value → H} {w : World} {base : Nat} {spare : Nat → Bool} {held : Bool} {fuel : Nat} {cs : List Value} {y : DataW H × List MemPlace},
  DataW.trod enc Try.prog w base spare held fuel tid cs = some y → ∃ x : t.T, Holds w (fun _ => True) t x cs ∧ t.cod.ok x ∧ (t.cod.enc x).length ≤ 10 * Rows.uptoBulk y.1
/-- The same, of the cells from o on. -/
def Part (w : World) (cs : List Value) (o : Nat) (t : Ty) (B : Nat) : Prop := ∃ x : t.T, Holds w (fun _ => True) t x ((cs.drop o).take t.sz) ∧ t.cod.ok x ∧ (t.cod.enc x).length ≤ 10 * B
theorem Part.pair {w : World} {cs : List Value} {o p : Nat} {a b : Ty} {B C : Nat} (h : Part w cs o a B) (k : Part w cs p b C) (hp : p = o + a.sz) : Part w cs o (.pair a b) (B + C) := by
  obtain ⟨x, h1, h2, h3⟩ := h
  obtain ⟨y, k1, k2, k3⟩ := k
  refine ⟨(x, y), ⟨_, _, ?_, h1, k1⟩, ⟨h2, k2⟩, ?_⟩
  · subst hp
    show (cs.drop o).take (a.sz + b.sz) = _
    rw [List.take_add, List.drop_drop]
  · show (a.cod.enc x ++ b.cod.enc y).length ≤ _
    rw [List.length_append]
    omega
theorem opens_int {tid : TypeId} (h : Try.prog.underlying tid = some (.int .i64)) : Opens .int tid := by
  intro H enc w base spare held fuel cs y hy
  obtain ⟨n, rfl, rfl, hw⟩ := DataW.trod_int h hy
  have hf : Fits n := by
    simp only [Lit.wf, Bool.and_eq_true, decide_eq_true_eq] at hw
    have e1 : IntKind.i64.min = -9223372036854775808 := by decide
    have e2 : IntKind.i64.max = 9223372036854775807 := by decide
    rw [e1, e2] at hw
    exact hw
  exact ⟨n, rfl, hf, num_len n hf⟩
theorem opens_bool {tid : TypeId} (h : Try.prog.underlying tid = some .bool) : Opens .bool tid := by
  intro H enc w base spare held fuel cs y hy
  obtain ⟨b, rfl, rfl⟩ := DataW.trod_bool h hy
  refine ⟨b, rfl, trivial, num_len _ ?_⟩
  cases b
  · exact ⟨by decide, by decide⟩
  · exact ⟨by decide, by decide⟩
theorem opens_str {tid : TypeId} (h : Try.prog.underlying tid = some .string) : Opens .str tid := by
  intro H enc w base spare held fuel cs y hy
  obtain ⟨s, rfl, rfl, hs⟩ := DataW.trod_string h hy
  have hm : s.data.toList.length ≤ top := by
    have : s.data.toList.length = s.size := by simp
    unfold maxLen at hs
    show s.data.toList.length ≤ 9223372036854775807
    omega
  refine ⟨s, rfl, hm, ?_⟩
  show (num (s.data.toList.length : Int) ++ s.data.toList).length ≤ 10 * (s.data.toList.length + 1)
  have := num_len (s.data.toList.length : Int) ⟨by omega, by have h' : s.data.toList.length ≤ 9223372036854775807 := hm; omega⟩
  rw [List.length_append]
  omega
theorem choose_list {α : Type} {R : Nat → α → Prop} : ∀ n : Nat, (∀ i, i < n → ∃ x, R i x) → ∃ l : List α, l.length = n ∧ ∀ i x, l[i]? = some x → R i x
  | 0, _ => ⟨[], rfl, fun i x h => by simp at h⟩
  | n + 1, h => by
    obtain ⟨l, hl, hr⟩ := choose_list n (fun i hi => h i (by omega))
    obtain ⟨x, hx⟩ := h n (by omega)
    refine ⟨l ++ [x], by rw [List.length_append, hl]; rfl, fun i y hy => ?_⟩
    by_cases hi : i < n
    · rw [List.getElem?_append_left (by omega)] at hy
      exact hr i y hy
    · rw [List.getElem?_append_right (by omega), hl] at hy
      have hi2 : i - n = 0 := by
        rcases Nat.lt_or_ge (i - n) 1 with h1 | h1
        · omega
        · rw [List.getElem?_eq_none (by simpa using h1)] at hy
          cases hy
      rw [hi2] at hy
      have : x = y := by simpa using hy
      subst this
      have : i = n := by omega
      subst this
      exact hx
theorem encs_bulk {H : Type} {α : Type} (c : Cod α) : ∀ (l : List α) (D : Nat → DataW H) (k : Nat), (∀ i x, l[i]? = some x → (c.enc x).length ≤ 10 * Rows.uptoBulk (D (k + i))) → (encs c l).length ≤ 10 * Rows.uptoBulkAll ((List.range' k l.length).map D)
  | [], D, k, _ => Nat.zero_le _
  | x :: l, D, k, h => by
    have h0 := h 0 x rfl
    have ih := encs_bulk c l D (k + 1) (fun i y hy => by have := h (i + 1) y hy; rw [show k + (i + 1) = k + 1 + i by omega] at this; exact this)
    have e : encs c (x :: l) = c.enc x ++ encs c l := by simp [encs]
    rw [e, List.length_append, List.length_cons, List.range'_succ, List.map_cons]
    show _ ≤ 10 * (Rows.uptoBulk (D k) + Rows.uptoBulkAll ((List.range' (k + 1) l.length).map D))
    rw [Nat.add_zero] at h0
    omega
theorem opens_list {e : Ty} {tid eid : TypeId} (ht : Try.prog.underlying tid = some (.slice eid)) (hC : Try.prog.cellsOf eid = e.sz) (he : Opens e eid) : Opens (.list e) tid := by
  intro H enc w base spare held fuel cs y hy
  rcases open_slice ht hy with ⟨rfl, rfl⟩ | ⟨a, len, cap, m, n, D, Pl, rfl, hb, hl, hm, hmm, rfl, hi⟩
  · refine ⟨[], ⟨none, 0, rfl, Nat.le_refl _, fun i x h => by simp at h⟩, ⟨Nat.zero_le _, fun x h => by cases h⟩, ?_⟩
    have := num_len 0 fits0
    show (num 0 ++ []).length ≤ 10 * 1
    rw [List.append_nil]
    exact this
  · have hlm : len ≤ m := by rw [hmm]; split <;> omega
    obtain ⟨l, hll, hlr⟩ := choose_list (R := fun i x => (∃ c, c.length = e.sz ∧ Holds w (fun _ => True) e x c ∧ ∀ j u, c[j]? = some u → w.cell? ((a.add (i * e.sz)).add j) = some u) ∧ e.cod.ok x ∧ (e.cod.enc x).length ≤ 10 * Rows.uptoBulk (D i)) len (fun i hi2 => by
      obtain ⟨cs', hc, ht'⟩ := hi i (by omega)
      rw [hC] at hc
      obtain ⟨x, hx, hok, hen⟩ := he ht'
      obtain ⟨_, hcl, hat⟩ := World.cells?_some hc
      refine ⟨x, ⟨cs', hcl, hx, fun j u hj => ?_⟩, hok, hen⟩
      have hjl : j < e.sz := by rw [← hcl]; exact (List.getElem?_eq_some_iff.1 hj).1
      rw [hat j hjl, hj])
    have hspot : ∀ x, l[0]? = some x → ∃ ab ao, a = ⟨ab, ao, none⟩ := fun x hx => by
      obtain ⟨⟨c, hcl, _, hc⟩, _⟩ := hlr 0 x hx
      have hp := e.sz_pos
      have h0 := hc 0 (c[0]'(by omega)) (List.getElem?_eq_getElem (by omega))
      rw [Nat.zero_mul] at h0
      have ea : (a.add 0).add 0 = a := by simp [Addr.add]
      rw [ea] at h0
      unfold World.cell? at h0
      split at h0
      · by_cases hs : a.spot.isSome
        · rw [if_pos hs] at h0
          cases h0
        · obtain ⟨ab, ao, sp⟩ := a
          cases sp with
          | none => exact ⟨ab, ao, rfl⟩
          | some _ => exact absurd rfl hs
      · cases h0
    refine ⟨l, ⟨some a, cap, by rw [hll], by omega, fun i x hx => ?_⟩, ⟨?_, fun x hx => ?_⟩, ?_⟩
    · have hlen : i < l.length := (List.getElem?_eq_some_iff.1 hx).1
      obtain ⟨ab, ao, rfl⟩ := hspot _ (List.getElem?_eq_getElem (show 0 < l.length by omega))
      obtain ⟨⟨c, hcl, hH, hc⟩, _⟩ := hlr i x hx
      refine ⟨ab, ao, c, rfl, trivial, hH, fun j u hu => ?_⟩
      have := hc j u hu
      rw [add_at, add_at, Nat.add_assoc] at this
      exact this
    · show l.length ≤ 9223372036854775807
      unfold maxLen at hm
      omega
    · obtain ⟨i, hi2, rfl⟩ := List.mem_iff_getElem.1 hx
      exact (hlr i _ (List.getElem?_eq_getElem hi2)).2.1
    · have h1 := encs_bulk e.cod l D 0 (fun i x hx => by rw [Nat.zero_add]; exact (hlr i x hx).2.2)
      have h2 := num_len (l.length : Int) ⟨by omega, by unfold maxLen at hm; omega⟩
      show (num (l.length : Int) ++ encs e.cod l).length ≤ 10 * (Rows.uptoBulkAll ((List.range len).map D) + Rows.uptoBulkAll _ + 1)
      rw [List.length_append]
      rw [hll, ← List.range_eq_range'] at h1
      omega
theorem field_part {t : Ty} {tid : TypeId} (hop : Opens t tid) (hC : Try.prog.cellsOf tid = t.sz) {H : Type} {enc : TypeId × Value → H} {w : World} {base : Nat} {spare : Nat → Bool} {held : Bool} {n o : Nat} {cs : List Value} {y : DataW H × List MemPlace}
    (h : DataW.trod enc Try.prog w base spare held n tid ((cs.drop o).take (Try.prog.cellsOf tid)) = some y) : Part w cs o t (Rows.uptoBulk y.1) := by
  rw [hC] at h
  exact hop h
theorem opens_entry : Opens tEntry 141 := by
  intro H enc w base spare held fuel cs y hy
  obtain ⟨xs, n, rfl, rfl, hlen, hxl0, hf⟩ := DataW.trod_struct Try.underlying141 hy
  have hxl : xs.length = 4 := hxl0
  have hC : Try.prog.cellsOf 141 = 4 := by kernel_rfl
  rw [hC] at hlen
  obtain ⟨z0, z1, z2, z3, rfl⟩ : ∃ z0 z1 z2 z3, xs = [z0, z1, z2, z3] := by
    match xs, hxl with
    | [z0, z1, z2, z3], _ => exact ⟨z0, z1, z2, z3, rfl⟩
  have p0 := field_part (opens_int Try.underlying3) (by kernel_rfl) (hf 0 _ rfl)
  have p1 := field_part (opens_int Try.underlying3) (by kernel_rfl) (hf 1 _ rfl)
  have p2 := field_part (opens_int Try.underlying3) (by kernel_rfl) (hf 2 _ rfl)
  have p3 := field_part (opens_str Try.underlying9) (by kernel_rfl) (hf 3 _ rfl)
  obtain ⟨x, h1, h2, h3⟩ : Part w cs 0 tEntry _ := (Part.pair (Part.pair p0 (Part.pair p1 p2 rfl) rfl) p3 rfl)
  have e : (cs.drop 0).take tEntry.sz = cs := by rw [List.drop_zero, List.take_of_length_le]; rw [hlen]; exact Nat.le_refl _
  rw [e] at h1
  refine ⟨x, h1, h2, Nat.le_trans h3 ?_⟩
  simp only [List.map_cons, List.map_nil, Rows.uptoBulk, Rows.uptoBulkAll]
  omega
theorem opens_msg : Opens tMsg 24 := by
  intro H enc w base spare held fuel cs y hy
  obtain ⟨xs, n, rfl, rfl, hlen, hxl0, hf⟩ := DataW.trod_struct Try.underlying24 hy
  have hxl : xs.length = 10 := hxl0
  have hC : Try.prog.cellsOf 24 = 10 := by kernel_rfl
  rw [hC] at hlen
  obtain ⟨z0, z1, z2, z3, z4, z5, z6, z7, z8, z9, rfl⟩ : ∃ z0 z1 z2 z3 z4 z5 z6 z7 z8 z9, xs = [z0, z1, z2, z3, z4, z5, z6, z7, z8, z9] := by
    match xs, hxl with
    | [z0, z1, z2, z3, z4, z5, z6, z7, z8, z9], _ => exact ⟨z0, z1, z2, z3, z4, z5, z6, z7, z8, z9, rfl⟩
  have p0 := field_part (opens_int Try.underlying3) (by kernel_rfl) (hf 0 _ rfl)
  have p1 := field_part (opens_int Try.underlying3) (by kernel_rfl) (hf 1 _ rfl)
  have p2 := field_part (opens_int Try.underlying3) (by kernel_rfl) (hf 2 _ rfl)
  have p3 := field_part (opens_int Try.underlying3) (by kernel_rfl) (hf 3 _ rfl)
  have p4 := field_part (opens_int Try.underlying3) (by kernel_rfl) (hf 4 _ rfl)
  have p5 := field_part (opens_int Try.underlying3) (by kernel_rfl) (hf 5 _ rfl)
  have p6 := field_part (opens_int Try.underlying3) (by kernel_rfl) (hf 6 _ rfl)
  have p7 := field_part (opens_bool Try.underlying4) (by kernel_rfl) (hf 7 _ rfl)
  have p8 := field_part (opens_list (e := tEntry) Try.underlying22 (by kernel_rfl) opens_entry) (by kernel_rfl) (hf 8 _ rfl)
  have p9 := field_part (opens_str Try.underlying9) (by kernel_rfl) (hf 9 _ rfl)
  obtain ⟨x, h1, h2, h3⟩ : Part w cs 0 tMsg _ := (Part.pair (Part.pair p0 (Part.pair p1 (Part.pair p2 (Part.pair p3 (Part.pair p4 (Part.pair p5 p6 rfl) rfl) rfl) rfl) rfl) rfl) (Part.pair p7 (Part.pair p8 p9 rfl) rfl) rfl)
  have e : (cs.drop 0).take tMsg.sz = cs := by rw [List.drop_zero, List.take_of_length_le]; rw [hlen]; exact Nat.le_refl _
  rw [e] at h1
  refine ⟨x, h1, h2, Nat.le_trans h3 ?_⟩
  simp only [List.map_cons, List.map_nil, Rows.uptoBulk, Rows.uptoBulkAll]
  omega
theorem opens_delta : Opens tDelta 33 := by
  intro H enc w base spare held fuel cs y hy
  obtain ⟨xs, n, rfl, rfl, hlen, hxl0, hf⟩ := DataW.trod_struct Try.underlying33 hy
  have hxl : xs.length = 8 := hxl0
  have hC : Try.prog.cellsOf 33 = 8 := by kernel_rfl
  rw [hC] at hlen
  obtain ⟨z0, z1, z2, z3, z4, z5, z6, z7, rfl⟩ : ∃ z0 z1 z2 z3 z4 z5 z6 z7, xs = [z0, z1, z2, z3, z4, z5, z6, z7] := by
    match xs, hxl with
    | [z0, z1, z2, z3, z4, z5, z6, z7], _ => exact ⟨z0, z1, z2, z3, z4, z5, z6, z7, rfl⟩
  have p0 := field_part (opens_int Try.underlying3) (by kernel_rfl) (hf 0 _ rfl)
  have p1 := field_part (opens_int Try.underlying3) (by kernel_rfl) (hf 1 _ rfl)
  have p2 := field_part (opens_bool Try.underlying4) (by kernel_rfl) (hf 2 _ rfl)
  have p3 := field_part (opens_int Try.underlying3) (by kernel_rfl) (hf 3 _ rfl)
  have p4 := field_part (opens_int Try.underlying3) (by kernel_rfl) (hf 4 _ rfl)
  have p5 := field_part (opens_str Try.underlying9) (by kernel_rfl) (hf 5 _ rfl)
  have p6 := field_part (opens_int Try.underlying3) (by kernel_rfl) (hf 6 _ rfl)
  have p7 := field_part (opens_list (e := tEntry) Try.underlying22 (by kernel_rfl) opens_entry) (by kernel_rfl) (hf 7 _ rfl)
  obtain ⟨x, h1, h2, h3⟩ : Part w cs 0 tDelta _ := (Part.pair (Part.pair p0 p1 rfl) (Part.pair p2 (Part.pair (Part.pair p3 p4 rfl) (Part.pair p5 (Part.pair p6 p7 rfl) rfl) rfl) rfl) rfl)
  have e : (cs.drop 0).take tDelta.sz = cs := by rw [List.drop_zero, List.take_of_length_le]; rw [hlen]; exact Nat.le_refl _
  rw [e] at h1
  refine ⟨x, h1, h2, Nat.le_trans h3 ?_⟩
  simp only [List.map_cons, List.map_nil, Rows.uptoBulk, Rows.uptoBulkAll]
  omega
end Go.Proofs.Ytlcgkcmicklihaa.Wire
