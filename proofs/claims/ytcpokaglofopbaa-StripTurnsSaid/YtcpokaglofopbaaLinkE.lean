/- What the printed functions of layer 3 come to, part five: the laws StripCuts and StripBehind over numbers and lists. -/
import Derived.Test.YtcpokaglofopbaaLinkD
namespace Go.Proofs.Ytcpokaglofopbaa.Link
open Go.RowKit Go.Proofs.Ytcpokaglofopbaa.PAll Go.Proofs.YtcpokaglofopbaaW.PrintWords Go.Proofs.YtcpokaglofopbaaW.PrintLast Go.Proofs.Ytcpokaglofopbaa.Crc

theorem map_back (l : List ByteArray) : (l.map fun s => s.data.toList).map mk = l := by
  rw [List.map_map]
  conv => rhs; rw [← List.map_id l]
  rfl

/-! ### StripCuts -/
theorem cuts_end (k : Nat) (l : List ByteArray) (ps : List (List UInt8)) (c n : Nat) (hn : n ≤ l.length) :
    (if 0 ≤ ((c : Nat) : Int) then (if ((c : Nat) : Int) ≤ ((mk (joined ps)).size : Int) then ((strip_Scan.f k ((mk (joined ps)).extract 0 ((c : Nat) : Int).toNat)).bind fun bt => (if 0 ≤ (n : Int) then (if (n : Int) ≤ (l.length : Int) then ((lintelref03_Same.f k bt.1 (l.take (n : Int).toNat)).bind fun t => (if t = true then (if (n : Int) < ((ends ps l.length).length : Int) then (some (bt.2 == (rd (ends ps l.length) (n : Int)))) else (none)) else (some false))) else (none)) else (none))) else (none)) else (none))
    = (if c ≤ (joined ps).length then ((strip_Scan.f k ((mk (joined ps)).extract 0 c)).bind fun bt => ((lintelref03_Same.f k bt.1 (l.take n)).bind fun t => (if t = true then some (bt.2 == ((joined (ps.take n)).length : Int)) else some false))) else none) := by
  have q : (((c : Nat) : Int) ≤ ((mk (joined ps)).size : Int)) ↔ c ≤ (joined ps).length := by rw [mk_size]; omega
  rw [if_pos (by omega)]
  simp only [q, Int.toNat_natCast]
  rw [ends_get ps _ _ hn, ends_length]
  have t1 : 0 ≤ (n : Int) := by omega
  have t2 : (n : Int) ≤ (l.length : Int) := by omega
  have t3 : (n : Int) < ((l.length + 1 : Nat) : Int) := by omega
  simp only [if_pos t1, if_pos t2, if_pos t3]
theorem cuts_l0 (l : List ByteArray) (hl : l.length ≤ 9223372036854775807) (c n : Nat) (hn : n ≤ l.length)
    (hc : c ≤ (joined (l.map fun s => s.data.toList)).length) (hj : (joined (l.map fun s => s.data.toList)).length ≤ 69640)
    (htold : told ((joined (l.map fun s => s.data.toList)).take c) = ((l.map fun s => s.data.toList).take n, (joined ((l.map fun s => s.data.toList).take n)).length))
    (hlo : (joined ((l.map fun s => s.data.toList).take n)).length ≤ c) (hhi : n < l.length → c < (joined ((l.map fun s => s.data.toList).take (n + 1))).length) :
    ∀ (d i : Nat), n - i = d → i ≤ n → Ev (fun k => lintellaw03_StripCuts.l0 k l (c : Int) (mk (joined (l.map fun s => s.data.toList))) (ends (l.map fun s => s.data.toList) l.length) (i : Int)) true := by
  have hback := map_back l
  generalize (l.map fun s => s.data.toList) = ps at *
  intro d
  induction d with
  | zero =>
    intro i hd hi
    obtain rfl : i = n := by omega
    have hend : Ev (fun k => (strip_Scan.f k ((mk (joined ps)).extract 0 c)).bind fun bt => ((lintelref03_Same.f k bt.1 (l.take i)).bind fun t => (if t = true then some (bt.2 == ((joined (ps.take i)).length : Int)) else some false))) true := by
      have hs := scanned ((mk (joined ps)).extract 0 c) (by rw [ByteArray.size_extract, mk_size]; omega)
      have hx : ((mk (joined ps)).extract 0 c).data.toList = (joined ps).take c := by rw [extract_data, mk_data, List.drop_zero]
      rw [hx, htold] at hs
      have hm : (ps.take i).map mk = l.take i := by rw [List.map_take, hback]
      rw [hm] at hs
      refine Ev.bind (f := fun k (bt : List ByteArray × Int) => ((lintelref03_Same.f k bt.1 (l.take i)).bind fun t => (if t = true then some (bt.2 == ((joined (ps.take i)).length : Int)) else some false))) hs ?_
      refine Ev.bind (f := fun k (t : Bool) => (if t = true then some (((joined (ps.take i)).length : Int) == ((joined (ps.take i)).length : Int)) else some false)) (same_go (l.take i) (by rw [List.length_take]; omega)) ?_
      rw [beq_self_eq_true]
      exact Ev.now _
    refine Ev.step (fun k => ?_) hend
    simp only [lintellaw03_StripCuts.l0]
    by_cases hlt : i < l.length
    · have e1 : wrap64 ((i : Int) + 1) = ((i + 1 : Nat) : Int) := by rw [wrap_in (by omega) (by omega)]; rfl
      have := hhi hlt
      rw [if_pos (by omega), e1, if_pos (by omega), ends_length, if_pos (by omega), ends_get ps _ _ (by omega), if_neg (by omega)]
      rw [← ends_length ps l.length]
      rw [cuts_end k l ps c i hn, if_pos hc]
    · rw [if_neg (by omega)]
      rw [cuts_end k l ps c i hn, if_pos hc]
  | succ d ih =>
    intro i hd hi
    refine Ev.step (fun k => ?_) (ih (i + 1) (by omega) (by omega))
    simp only [lintellaw03_StripCuts.l0]
    have e1 : wrap64 ((i : Int) + 1) = ((i + 1 : Nat) : Int) := by rw [wrap_in (by omega) (by omega)]; rfl
    have hm := joined_mono ps (i + 1) n (by omega)
    rw [if_pos (by omega), e1, if_pos (by omega), ends_length, if_pos (by omega), ends_get ps _ _ (by omega), if_pos (by omega)]
theorem cut_between (a : Int) (n : Nat) : ∃ c : Nat, mx 0 (mn a (n : Int)) = (c : Int) ∧ c ≤ n := by
  refine ⟨(mx 0 (mn a (n : Int))).toNat, ?_, ?_⟩ <;> (unfold mx mn; split <;> split <;> omega)
theorem cuts (l : List ByteArray) (a : Int) (hl : l.length ≤ 9223372036854775807) : Ev (fun k => lintellaw03_StripCuts.f k l a) true := by
  obtain ⟨r, hr, ht⟩ := written_go l hl
  unfold lintellaw03_StripCuts.f
  refine Ev.bind (f := fun k (w : ByteArray × List Int × Bool) => ((lintellaw03_awake.f k).bind fun t => (if t = true then (lintellaw03_StripCuts.j0 k l a w.1 w.2.1 (!w.2.2)) else (lintellaw03_StripCuts.j0 k l a w.1 w.2.1 true)))) hr ?_
  refine Ev.bind (f := fun k (t : Bool) => (if t = true then (lintellaw03_StripCuts.j0 k l a r.1 r.2.1 (!r.2.2)) else (lintellaw03_StripCuts.j0 k l a r.1 r.2.1 true))) awake_go ?_
  refine Ev.congr (fun k => if_pos (by trivial)) ?_
  cases hg : r.2.2 with
  | false =>
    refine Ev.step (f := fun k => (lintellaw03_awake.f k).bind fun t => some t) (fun k => ?_) (Ev.bind (f := fun _ t => some t) awake_go (Ev.now _))
    simp only [lintellaw03_StripCuts.j0]
    rw [if_pos (by trivial)]
  | true =>
    obtain ⟨rfl, hsm, hj⟩ := ht hg
    obtain ⟨c, hc, hcl⟩ := cut_between a (joined (l.map fun s => s.data.toList)).length
    obtain ⟨n, h1, h2, h3, h4⟩ := told_cut (l.map fun s => s.data.toList) (fun p hp => by have := hsm p hp; omega) c hcl
    rw [List.length_map] at h1 h4
    refine Ev.step (fun k => ?_) (cuts_l0 l hl c n h1 hcl hj h2 h3 h4 n 0 (by omega) (by omega))
    simp only [lintellaw03_StripCuts.j0]
    rw [if_neg (by decide), mk_size, hc, List.length_map]
    rfl

/-! ### StripBehind -/
theorem behind (l : List ByteArray) (m : ByteArray) (hl : l.length ≤ 9223372036854775807) (hm : m.size ≤ 1048576) : Ev (fun k => lintellaw03_StripBehind.f k l m) true := by
  obtain ⟨r, hr, ht⟩ := written_go l hl
  unfold lintellaw03_StripBehind.f
  refine Ev.bind (f := fun k (w : ByteArray × List Int × Bool) => ((lintellaw03_awake.f k).bind fun t => (if t = true then (lintellaw03_StripBehind.j0 k l m w.1 w.2.1 (!w.2.2)) else (lintellaw03_StripBehind.j0 k l m w.1 w.2.1 true)))) hr ?_
  refine Ev.bind (f := fun k (t : Bool) => (if t = true then (lintellaw03_StripBehind.j0 k l m r.1 r.2.1 (!r.2.2)) else (lintellaw03_StripBehind.j0 k l m r.1 r.2.1 true))) awake_go ?_
  refine Ev.congr (fun k => if_pos (by trivial)) ?_
  cases hg : r.2.2 with
  | false =>
    refine Ev.step (f := fun k => (lintellaw03_awake.f k).bind fun t => some t) (fun k => ?_) (Ev.bind (f := fun _ t => some t) awake_go (Ev.now _))
    simp only [lintellaw03_StripBehind.j0]
    rw [if_pos (by trivial)]
  | true =>
    obtain ⟨rfl, hsm, hj⟩ := ht hg
    have hback := map_back l
    have hlen : (l.map fun s => s.data.toList).length = l.length := List.length_map _
    generalize (l.map fun s => s.data.toList) = ps at *
    have hs := scanned (mk (joined ps) ++ m) (by rw [cat_size]; omega)
    rw [cat_data, told_joined m.data.toList ps (fun p hp => by have := hsm p hp; omega)] at hs
    have hb := told_bounds _ m.data.toList (Nat.le_refl _)
    rw [data_length] at hb
    generalize told m.data.toList = tm at hs hb
    rw [List.map_append, hback] at hs
    dsimp only at hs
    refine Ev.step (f := fun k => (strip_Scan.f k (mk (joined ps) ++ m)).bind fun bt => (if (bt.1.length : Int) ≥ (l.length : Int) then (if 0 ≤ (l.length : Int) then (if (l.length : Int) ≤ (bt.1.length : Int) then ((lintelref03_Same.f k (bt.1.take ((l.length : Int) : Int).toNat) l).bind fun t => (if t = true then (if (l.length : Int) < ((ends ps ps.length).length : Int) then (if bt.2 ≥ (rd (ends ps ps.length) (l.length : Int)) then (some (decide (bt.2 ≤ (((mk (joined ps)).size : Int) + (m.size : Int))))) else (some false)) else (none)) else (some false))) else (none)) else (none)) else (some false))) (fun k => ?_) ?_
    · simp only [lintellaw03_StripBehind.j0]
      rw [if_neg (by decide), if_pos (by rw [mk_size]; omega)]
    · refine Ev.bind (f := fun k (bt : List ByteArray × Int) => (if (bt.1.length : Int) ≥ (l.length : Int) then (if 0 ≤ (l.length : Int) then (if (l.length : Int) ≤ (bt.1.length : Int) then ((lintelref03_Same.f k (bt.1.take ((l.length : Int) : Int).toNat) l).bind fun t => (if t = true then (if (l.length : Int) < ((ends ps ps.length).length : Int) then (if bt.2 ≥ (rd (ends ps ps.length) (l.length : Int)) then (some (decide (bt.2 ≤ (((mk (joined ps)).size : Int) + (m.size : Int))))) else (some false)) else (none)) else (some false))) else (none)) else (none)) else (some false))) hs ?_
      have hll : (l ++ tm.1.map mk).length = l.length + (tm.1.map mk).length := List.length_append
      refine Ev.congr (f := fun k => (lintelref03_Same.f k l l).bind fun t => (if t = true then some true else some false)) (fun k => ?_) ?_
      · rw [if_pos (by rw [hll]; omega), if_pos (by omega), if_pos (by rw [hll]; omega), Int.toNat_natCast, List.take_left' rfl]
        refine Option.bind_congr (fun t _ => ?_)
        rw [ends_length, hlen, if_pos (show (l.length : Int) < ((l.length + 1 : Nat) : Int) by omega), ends_get ps _ _ (Nat.le_refl _), List.take_of_length_le (by omega)]
        have t1 : (((joined ps).length + tm.2 : Nat) : Int) ≥ ((joined ps).length : Int) := by omega
        have t2 : (((joined ps).length + tm.2 : Nat) : Int) ≤ ((mk (joined ps)).size : Int) + (m.size : Int) := by rw [mk_size]; omega
        rw [if_pos t1, decide_eq_true t2]
      · exact Ev.bind (f := fun k (t : Bool) => (if t = true then some true else some false)) (same_go l hl) (Ev.now _)

end Go.Proofs.Ytcpokaglofopbaa.Link
