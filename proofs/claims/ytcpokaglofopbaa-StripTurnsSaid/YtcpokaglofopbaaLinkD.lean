/- What the printed functions of layer 3 come to, part four: records written one behind the other, and the laws StripScans, StripCuts, StripBehind over numbers and lists. -/
import Derived.Test.YtcpokaglofopbaaLinkC
namespace Go.Proofs.Ytcpokaglofopbaa.Link
open Go.RowKit Go.Proofs.Ytcpokaglofopbaa.PAll Go.Proofs.YtcpokaglofopbaaW.PrintWords Go.Proofs.YtcpokaglofopbaaW.PrintLast Go.Proofs.Ytcpokaglofopbaa.Crc

/-! ### The law StripScans -/
theorem spoil_l0 (b : List ByteArray) (hb : b.length ≤ 9223372036854775807) : ∀ (d i : Nat) (a : List ByteArray), a.length - i ≤ d → i ≤ a.length → a.length ≤ 9223372036854775807 →
    Ev (fun k => lintellaw03_StripScans.l0 k a b b (a.length : Int) (i : Int)) true
  | d, i, a, h, hi, ha => by
    by_cases hlt : i < a.length
    · obtain ⟨d, rfl⟩ : ∃ e, d = e + 1 := ⟨d - 1, by omega⟩
      refine Ev.step (f := fun k => lintellaw03_StripScans.l0 k (a.set i (⟨#[115, 112, 111, 105, 108, 116]⟩ : ByteArray)) b b ((a.set i (⟨#[115, 112, 111, 105, 108, 116]⟩ : ByteArray)).length : Int) ((i + 1 : Nat) : Int)) (fun k => ?_)
        (spoil_l0 b hb d (i + 1) _ (by rw [List.length_set]; omega) (by rw [List.length_set]; omega) (by rw [List.length_set]; omega))
      simp only [lintellaw03_StripScans.l0]
      rw [if_pos (by omega), if_pos (by omega), if_pos (by omega), wrap_in (by omega) (by omega), List.length_set, Int.toNat_natCast]
      rfl
    · refine Ev.step (f := fun k => (lintelref03_Same.f k b b).bind fun t => some t) (fun k => ?_) (Ev.bind (f := fun _ t => some t) (same_go b hb) (Ev.now _))
      simp only [lintellaw03_StripScans.l0]
      rw [if_neg (by omega)]
theorem told_short (s : ByteArray) (hs : s.size ≤ 70368744177664) : ((told s.data.toList).1.map mk).length ≤ 9223372036854775807 := by
  have h := told_bounds _ s.data.toList (Nat.le_refl _)
  rw [data_length] at h
  rw [List.length_map]
  omega
theorem scans (s : ByteArray) (hs : s.size ≤ 70368744177664) : Ev (fun k => lintellaw03_StripScans.f k s) true := by
  unfold lintellaw03_StripScans.f
  have hl := told_short s hs
  refine Ev.bind (f := fun k (x : List ByteArray × Int) => (lintelref03_Scan.f k s).bind fun y => ((strip_Scan.f k s).bind fun z => ((lintellaw03_awake.f k).bind fun t => (if t = true then ((lintelref03_Same.f k x.1 y.1).bind fun u => (if u = true then (lintellaw03_StripScans.j0 k x.1 y.1 z.1 (x.2 != y.2)) else (lintellaw03_StripScans.j0 k x.1 y.1 z.1 true))) else (lintellaw03_StripScans.j0 k x.1 y.1 z.1 true))))) (scanned s hs) ?_
  have hr := rscanned s hs
  have hg := scanned s hs
  generalize ((told s.data.toList).1.map mk, ((told s.data.toList).2 : Int)) = x at hr hg ⊢
  generalize (told s.data.toList).1.map mk = l at hl hr hg
  have hx : x.1.length ≤ 9223372036854775807 := by
    obtain ⟨K, hK⟩ := scanned s hs
    obtain ⟨K2, hK2⟩ := hg
    have e1 := hK (max K K2) (by omega)
    have e2 := hK2 (max K K2) (by omega)
    simp only [] at e1 e2
    rw [e1] at e2
    injection e2 with e2
    rw [← e2]
    exact told_short s hs
  refine Ev.bind (f := fun k (y : List ByteArray × Int) => ((strip_Scan.f k s).bind fun z => ((lintellaw03_awake.f k).bind fun t => (if t = true then ((lintelref03_Same.f k x.1 y.1).bind fun u => (if u = true then (lintellaw03_StripScans.j0 k x.1 y.1 z.1 (x.2 != y.2)) else (lintellaw03_StripScans.j0 k x.1 y.1 z.1 true))) else (lintellaw03_StripScans.j0 k x.1 y.1 z.1 true))))) hr ?_
  refine Ev.bind (f := fun k (z : List ByteArray × Int) => ((lintellaw03_awake.f k).bind fun t => (if t = true then ((lintelref03_Same.f k x.1 x.1).bind fun u => (if u = true then (lintellaw03_StripScans.j0 k x.1 x.1 z.1 (x.2 != x.2)) else (lintellaw03_StripScans.j0 k x.1 x.1 z.1 true))) else (lintellaw03_StripScans.j0 k x.1 x.1 z.1 true)))) hg ?_
  refine Ev.bind (f := fun k (t : Bool) => (if t = true then ((lintelref03_Same.f k x.1 x.1).bind fun u => (if u = true then (lintellaw03_StripScans.j0 k x.1 x.1 x.1 (x.2 != x.2)) else (lintellaw03_StripScans.j0 k x.1 x.1 x.1 true))) else (lintellaw03_StripScans.j0 k x.1 x.1 x.1 true))) awake_go ?_
  refine Ev.congr (fun k => if_pos (by trivial)) ?_
  refine Ev.bind (f := fun k (u : Bool) => (if u = true then (lintellaw03_StripScans.j0 k x.1 x.1 x.1 (x.2 != x.2)) else (lintellaw03_StripScans.j0 k x.1 x.1 x.1 true))) (same_go x.1 hx) ?_
  refine Ev.congr (fun k => if_pos (by trivial)) ?_
  refine Ev.step (f := fun k => lintellaw03_StripScans.l0 k x.1 x.1 x.1 (x.1.length : Int) ((0 : Nat) : Int)) (fun k => ?_) (spoil_l0 x.1 hx x.1.length 0 x.1 (by omega) (by omega) hx)
  simp only [lintellaw03_StripScans.j0]
  rw [if_neg (by simp)]
  rfl

/-! ### Records one behind the other -/
def ends (ps : List (List UInt8)) (i : Nat) : List Int := (List.range (i + 1)).map fun j => ((joined (ps.take j)).length : Int)
theorem ends_length (ps : List (List UInt8)) (i : Nat) : (ends ps i).length = i + 1 := by unfold ends; rw [List.length_map, List.length_range]
theorem ends_succ (ps : List (List UInt8)) (i : Nat) : ends ps (i + 1) = ends ps i ++ [((joined (ps.take (i + 1))).length : Int)] := by
  unfold ends
  rw [List.range_succ, List.map_append]
  rfl
theorem ends_get (ps : List (List UInt8)) (i j : Nat) (h : j ≤ i) : rd (ends ps i) (j : Int) = ((joined (ps.take j)).length : Int) := by
  unfold rd ends
  rw [Int.toNat_natCast, List.getD_eq_getElem?_getD, List.getElem?_map, List.getElem?_range (by omega)]
  rfl
theorem joined_take_succ (ps : List (List UInt8)) (i : Nat) (h : i < ps.length) : joined (ps.take (i + 1)) = joined (ps.take i) ++ record ps[i] := by
  rw [List.take_succ_eq_append_getElem h, joined_append]
  congr 1
  exact List.append_nil _
theorem joined_many : ∀ ps : List (List UInt8), 8 * ps.length ≤ (joined ps).length
  | [] => by simp
  | p :: ps => by
    have := joined_many ps
    simp only [joined, List.length_append, record_length, List.length_cons]
    omega
theorem joined_mono (ps : List (List UInt8)) (i j : Nat) (h : i ≤ j) : (joined (ps.take i)).length ≤ (joined (ps.take j)).length := by
  have e : ps.take j = ps.take i ++ (ps.take j).drop i := by
    have := (List.take_append_drop i (ps.take j)).symm
    rwa [List.take_take, Nat.min_eq_left h] at this
  rw [e, joined_append, List.length_append]
  omega
/-- What 'written' tells of these payloads. -/
def Told (ps : List (List UInt8)) (r : ByteArray × List Int × Bool) : Prop :=
  r.2.2 = true → r = (mk (joined ps), ends ps ps.length, true) ∧ (∀ p ∈ ps, p.length ≤ 4096) ∧ (joined ps).length ≤ 69640
theorem written_l0 (l : List ByteArray) (hl : l.length ≤ 9223372036854775807) : ∀ (d i : Nat), l.length - i ≤ d → i ≤ l.length →
    (∀ p ∈ (l.map fun s => s.data.toList).take i, p.length ≤ 4096) → (joined ((l.map fun s => s.data.toList).take i)).length ≤ 69640 →
    ∃ r, Ev (fun k => lintellaw03_written.l0 k (mk (joined ((l.map fun s => s.data.toList).take i))) (ends (l.map fun s => s.data.toList) i) l (l.length : Int) (i : Int)) r ∧ Told (l.map fun s => s.data.toList) r := by
  intro d
  induction d with
  | zero =>
    intro i hd hi hsm hjn
    obtain rfl : i = l.length := by omega
    refine ⟨_, Ev.step (f := fun _ => some (mk (joined ((l.map fun s => s.data.toList).take l.length)), ends (l.map fun s => s.data.toList) l.length, true)) (fun k => ?_) (Ev.now _), ?_⟩
    · simp only [lintellaw03_written.l0]
      rw [if_neg (by omega)]
    · have e : (l.map fun s => s.data.toList).take l.length = l.map fun s => s.data.toList := List.take_of_length_le (by rw [List.length_map]; exact Nat.le_refl _)
      rw [e] at hsm hjn ⊢
      intro _
      exact ⟨by rw [List.length_map], hsm, hjn⟩
  | succ d ih =>
    intro i hd hi hsm hjn
    by_cases hlt : i < l.length
    · have hlm : i < (l.map fun s => s.data.toList).length := by rw [List.length_map]; exact hlt
      have hget : (l.map fun s => s.data.toList)[i] = l[i].data.toList := by simp
      have hrd : rdOf ByteArray.empty l (i : Int) = l[i] := by
        unfold rdOf
        rw [Int.toNat_natCast, List.getD_eq_getElem?_getD, List.getElem?_eq_getElem hlt]
        rfl
      have hsz : l[i].data.toList.length = l[i].size := data_length _
      have hmany := joined_many ((l.map fun s => s.data.toList).take i)
      rw [List.length_take, List.length_map, Nat.min_eq_left hi] at hmany
      have hstep := joined_take_succ _ i hlm
      rw [hget] at hstep
      have hends := ends_succ (l.map fun s => s.data.toList) i
      generalize hP : (l.map fun s => s.data.toList) = ps at *
      generalize hq : l[i] = q at *
      have hbads : ∀ (b : Bool) (r : ByteArray × List Int × Bool), b = true → Ev (fun k => lintellaw03_written.j1 k (mk (joined (ps.take i))) (ends ps i) q l (l.length : Int) (i : Int) b) ((⟨#[]⟩ : ByteArray), ([] : List Int), false) := by
        intro b _ hb
        subst hb
        refine Ev.step (f := fun _ => some ((⟨#[]⟩ : ByteArray), ([] : List Int), false)) (fun k => ?_) (Ev.now _)
        simp only [lintellaw03_written.j1]
        rw [if_pos trivial]
      by_cases hbig : q.size > 4096
      · refine ⟨_, Ev.step (f := fun k => lintellaw03_written.j1 k (mk (joined (ps.take i))) (ends ps i) q l (l.length : Int) (i : Int) true) (fun k => ?_) (hbads true ((⟨#[]⟩ : ByteArray), ([] : List Int), false) rfl), fun h => by cases h⟩
        simp only [lintellaw03_written.l0]
        rw [hrd, if_pos (by omega), if_pos (by omega), if_pos (by omega), if_pos (by omega)]
      · have hround : ∀ b, decide ((mk (joined (ps.take i))).size > 65536) = b → ∀ k, lintellaw03_written.l0 (k + 1) (mk (joined (ps.take i))) (ends ps i) l (l.length : Int) (i : Int) = lintellaw03_written.j1 k (mk (joined (ps.take i))) (ends ps i) q l (l.length : Int) (i : Int) b := by
          intro b hb k
          simp only [lintellaw03_written.l0]
          rw [hrd, if_pos (by omega), if_pos (by omega), if_pos (by omega), if_neg (by omega), ← hb]
          congr 1
          apply decide_eq_decide.mpr
          omega
        by_cases hlong : (mk (joined (ps.take i))).size > 65536
        · exact ⟨_, Ev.step (hround true (decide_eq_true hlong)) (hbads true ((⟨#[]⟩ : ByteArray), ([] : List Int), false) rfl), fun h => by cases h⟩
        · rw [mk_size] at hlong
          have hcat : mk (joined (ps.take i)) ++ mk (record q.data.toList) = mk (joined (ps.take (i + 1))) := by rw [mk_append, ← hstep]
          have hlen2 : (joined (ps.take (i + 1))).length = (joined (ps.take i)).length + (8 + q.size) := by rw [hstep, List.length_append, record_length, hsz]
          obtain ⟨r, hr, ht⟩ := ih (i + 1) (by omega) (by omega) (by
            intro p hp
            rw [List.take_succ_eq_append_getElem hlm, List.mem_append] at hp
            rcases hp with hp | hp
            · exact hsm p hp
            · rw [List.mem_singleton] at hp
              subst hp
              rw [hget]
              omega) (by rw [hlen2]; omega)
          refine ⟨r, Ev.step (hround false (decide_eq_false (by rw [mk_size]; omega))) (Ev.step (f := fun k => (strip_Put.f k q).bind fun bt => (if bt.2 = 0 then (if (mk (joined (ps.take i))).size + bt.1.size ≤ 9223372036854775807 then (if (ends ps i).length < 17592186044416 then (lintellaw03_written.l0 k (mk (joined (ps.take i)) ++ bt.1) (ends ps i ++ [((mk (joined (ps.take i))).size : Int) + (bt.1.size : Int)]) l (l.length : Int) (wrap64 ((i : Int) + 1))) else (none)) else (none)) else (some ((⟨#[]⟩ : ByteArray), ([] : List Int), false)))) (fun k => ?_) ?_), ht⟩
          · simp only [lintellaw03_written.j1]
            rw [if_neg (by decide)]
          · refine Ev.bind (f := fun k (bt : ByteArray × Int) => (if bt.2 = 0 then (if (mk (joined (ps.take i))).size + bt.1.size ≤ 9223372036854775807 then (if (ends ps i).length < 17592186044416 then (lintellaw03_written.l0 k (mk (joined (ps.take i)) ++ bt.1) (ends ps i ++ [((mk (joined (ps.take i))).size : Int) + (bt.1.size : Int)]) l (l.length : Int) (wrap64 ((i : Int) + 1))) else (none)) else (none)) else (some ((⟨#[]⟩ : ByteArray), ([] : List Int), false)))) (put_go q) ?_
            have hans : putAns q = (mk (record q.data.toList), 0) := by
              unfold putAns
              rw [if_neg (by omega)]
            rw [hans]
            refine Ev.congr (fun k => ?_) hr
            rw [if_pos (by trivial), if_pos (by rw [mk_size, mk_size, record_length]; omega), if_pos (by rw [ends_length]; omega), hcat, wrap_in (by omega) (by omega), hends]
            have e : ((mk (joined (ps.take i))).size : Int) + ((mk (record q.data.toList)).size : Int) = ((joined (ps.take (i + 1))).length : Int) := by
              rw [mk_size, mk_size, record_length, hsz, hlen2]
              omega
            rw [e]
            rfl
    · obtain rfl : i = l.length := by omega
      exact ih l.length (by omega) (by omega) hsm hjn
theorem written_go (l : List ByteArray) (hl : l.length ≤ 9223372036854775807) : ∃ r, Ev (fun k => lintellaw03_written.f k l) r ∧ Told (l.map fun s => s.data.toList) r :=
  written_l0 l hl l.length 0 (by omega) (by omega) (by simp) (by simp [joined])

end Go.Proofs.Ytcpokaglofopbaa.Link
