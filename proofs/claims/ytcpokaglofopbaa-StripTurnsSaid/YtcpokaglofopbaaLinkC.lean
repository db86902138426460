/- What the printed functions of layer 3 come to, part three: the reference's scan, the comparison of lists, the first answers, records written one behind the other. -/
import Derived.Test.YtcpokaglofopbaaLinkB
namespace Go.Proofs.Ytcpokaglofopbaa.Link
open Go.RowKit Go.Proofs.Ytcpokaglofopbaa.PAll Go.Proofs.YtcpokaglofopbaaW.PrintWords Go.Proofs.YtcpokaglofopbaaW.PrintLast Go.Proofs.Ytcpokaglofopbaa.Crc

/-! ### The reference's scan -/
theorem num_at (s : ByteArray) (i : Nat) (h : i + 4 ≤ s.size) :
    ((num (s.data.toList.drop i) : Nat) : Int) = ((bt s (i : Int) * (256 : Int) + bt s ((i + 1 : Nat) : Int)) * (256 : Int) + bt s ((i + 2 : Nat) : Int)) * (256 : Int) + bt s ((i + 3 : Nat) : Int) := by
  have hl := data_length s
  have hd : (s.data.toList.drop i).length = s.size - i := by rw [List.length_drop, hl]
  rw [num_bytes _ (by omega), bt_get s i (by omega), bt_get s (i + 1) (by omega), bt_get s (i + 2) (by omega), bt_get s (i + 3) (by omega)]
  simp only [List.getElem_drop, Nat.add_zero]
theorem bt_byte (s : ByteArray) (i : Int) : 0 ≤ bt s i ∧ bt s i ≤ 255 := bt_range s i
theorem rscan_l0 (k : Nat) (s : ByteArray) (acc : List ByteArray) (i n : Nat) (h8 : i + 8 ≤ s.size) (hs : s.size ≤ 140737488351232) (hn : num (s.data.toList.drop i) = n) :
    lintelref03_Scan.l0 (k + 1) s acc (i : Int) = if 65536 < n then lintelref03_Scan.j1 k s acc (i : Int) (n : Int) true else lintelref03_Scan.j1 k s acc (i : Int) (n : Int) (decide (s.size < i + 8 + n)) := by
  have hnum := num_at s i (by omega)
  have href := num_ref (bt s (i : Int)) (bt s ((i + 1 : Nat) : Int)) (bt s ((i + 2 : Nat) : Int)) (bt s ((i + 3 : Nat) : Int)) (bt_byte _ _) (bt_byte _ _) (bt_byte _ _) (bt_byte _ _)
  rw [← hnum, hn] at href
  clear hnum
  have c8 : wrap64 ((i : Int) + 8) = ((i + 8 : Nat) : Int) := by rw [wrap_in (by omega) (by omega)]; omega
  have c1 : wrap64 ((i : Int) + 1) = ((i + 1 : Nat) : Int) := by rw [wrap_in (by omega) (by omega)]; omega
  have c2 : wrap64 ((i : Int) + 2) = ((i + 2 : Nat) : Int) := by rw [wrap_in (by omega) (by omega)]; omega
  have c3 : wrap64 ((i : Int) + 3) = ((i + 3 : Nat) : Int) := by rw [wrap_in (by omega) (by omega)]; omega
  have t0 : ((i + 8 : Nat) : Int) ≤ (s.size : Int) := by omega
  have t1 : 0 ≤ (i : Int) := by omega
  have t2 : (i : Int) < (s.size : Int) := by omega
  have t3 : 0 ≤ ((i + 1 : Nat) : Int) := by omega
  have t4 : ((i + 1 : Nat) : Int) < (s.size : Int) := by omega
  have t5 : 0 ≤ ((i + 2 : Nat) : Int) := by omega
  have t6 : ((i + 2 : Nat) : Int) < (s.size : Int) := by omega
  have t7 : 0 ≤ ((i + 3 : Nat) : Int) := by omega
  have t8 : ((i + 3 : Nat) : Int) < (s.size : Int) := by omega
  have hrange := hn
  have hb : n < 4294967296 := by
    have e := num_at s i (by omega)
    rw [hn] at e
    have := bt_byte s (i : Int); have := bt_byte s ((i + 1 : Nat) : Int); have := bt_byte s ((i + 2 : Nat) : Int); have := bt_byte s ((i + 3 : Nat) : Int)
    clear href
    omega
  have w1 : wrap64 (((i + 8 : Nat) : Int) + (n : Int)) = ((i + 8 + n : Nat) : Int) := by rw [wrap_in (by omega) (by omega)]; omega
  have q1 : ((n : Int) > 65536) ↔ 65536 < n := by omega
  have q2 : (((i + 8 + n : Nat) : Int) > (s.size : Int)) ↔ s.size < i + 8 + n := by omega
  simp only [lintelref03_Scan.l0]
  simp only [c8, c1, c2, c3, href, w1]
  rw [if_pos t0, if_pos t1, if_pos t2, if_pos t3, if_pos t4, if_pos t5, if_pos t6, if_pos t7, if_pos t8]
  simp only [q1, q2]

theorem extract_some (s : ByteArray) (i n : Nat) : (s.extract (i + 8) (i + 8 + n)).data.toList = ((s.data.toList.drop i).drop 8).take n := by
  rw [extract_data, List.drop_take, List.drop_drop]
  congr 1
  exact Nat.add_sub_cancel_left ..
theorem extract_whole (s : ByteArray) (i n : Nat) : (s.extract i (i + 8 + n)).data.toList = (s.data.toList.drop i).take (8 + n) := by
  rw [extract_data, List.drop_take]
  congr 1
  rw [Nat.add_assoc]
  exact Nat.add_sub_cancel_left ..

theorem rscan_j1 (k : Nat) (s : ByteArray) (acc : List ByteArray) (i n : Nat) (h : i + 8 + n ≤ s.size) (hs : s.size ≤ 140737488351232) :
    lintelref03_Scan.j1 (k + 1) s acc (i : Int) (n : Int) false = (lintelref03_Put.f k (s.extract (i + 8) (i + 8 + n))).bind fun bt => if bt.2 = 0 then
      (if (s.extract i (i + 8 + n)).toList = bt.1.toList then (if acc.length < 8796093022208 then (lintelref03_Scan.l0 k s (acc ++ [s.extract (i + 8) (i + 8 + n)]) ((i + (8 + n) : Nat) : Int)) else none) else some (acc, (i : Int))) else some (acc, (i : Int)) := by
  have c8 : wrap64 ((i : Int) + 8) = ((i + 8 : Nat) : Int) := by rw [wrap_in (by omega) (by omega)]; omega
  have w1 : wrap64 (((i + 8 : Nat) : Int) + (n : Int)) = ((i + 8 + n : Nat) : Int) := by rw [wrap_in (by omega) (by omega)]; omega
  have w2 : wrap64 (8 + (n : Int)) = ((8 + n : Nat) : Int) := by rw [wrap_in (by omega) (by omega)]; omega
  have w3 : wrap64 ((i : Int) + ((8 + n : Nat) : Int)) = ((i + (8 + n) : Nat) : Int) := by rw [wrap_in (by omega) (by omega)]; omega
  have t0 : 0 ≤ ((i + 8 : Nat) : Int) := by omega
  have t1 : ((i + 8 : Nat) : Int) ≤ ((i + 8 + n : Nat) : Int) := by omega
  have t2 : ((i + 8 + n : Nat) : Int) ≤ (s.size : Int) := by omega
  have t3 : 0 ≤ (i : Int) := by omega
  have t4 : (i : Int) ≤ ((i + 8 + n : Nat) : Int) := by omega
  simp only [lintelref03_Scan.j1]
  simp only [c8, w1, w2, w3]
  rw [if_neg (by decide), if_pos t0, if_pos t1, if_pos t2]
  simp only [Int.toNat_natCast]
  refine Option.bind_congr (fun bt _ => ?_)
  by_cases hb : bt.2 = 0
  · rw [if_pos hb, if_pos hb, if_pos t3, if_pos t4]
  · rw [if_neg hb, if_neg hb]

theorem rscan_go (s : ByteArray) (hs : s.size ≤ 70368744177664) : ∀ (d at_ : Nat) (acc : List ByteArray), s.size - at_ ≤ d → at_ ≤ s.size → 8 * acc.length ≤ at_ →
    Ev (fun k => lintelref03_Scan.l0 k s acc (at_ : Int)) (acc ++ (told (s.data.toList.drop at_)).1.map mk, ((at_ + (told (s.data.toList.drop at_)).2 : Nat) : Int)) := by
  intro d
  induction d with
  | zero =>
    intro at_ acc hd hat hacc
    have hf : first (s.data.toList.drop at_) = none := by
      unfold first
      rw [if_pos (by rw [List.length_drop, data_length]; omega)]
    have t0 : ¬ (wrap64 ((at_ : Int) + 8)) ≤ (s.size : Int) := by rw [wrap_in (by omega) (by omega)]; omega
    rw [told_none hf]
    simp only [List.map_nil, List.append_nil, Nat.add_zero]
    refine Ev.step (f := fun _ => some (acc, (at_ : Int))) (fun k => ?_) (Ev.now _)
    simp only [lintelref03_Scan.l0]
    rw [if_neg t0]
  | succ d ih =>
    intro at_ acc hd hat hacc
    have hlen : (s.data.toList.drop at_).length = s.size - at_ := by rw [List.length_drop, data_length]
    by_cases h8 : at_ + 8 ≤ s.size
    · obtain ⟨n, hn⟩ : ∃ n, num (s.data.toList.drop at_) = n := ⟨_, rfl⟩
      by_cases hbad : 65536 < n ∨ s.size < at_ + 8 + n
      · have hf : first (s.data.toList.drop at_) = none := by
          unfold first
          rw [hn, if_neg (by omega), if_pos (by omega)]
        rw [told_none hf]
        simp only [List.map_nil, List.append_nil, Nat.add_zero]
        refine Ev.step (f := fun k => lintelref03_Scan.j1 k s acc (at_ : Int) (n : Int) true) (fun k => ?_) (Ev.step (f := fun _ => some (acc, (at_ : Int))) (fun k => ?_) (Ev.now _))
        · rw [rscan_l0 k s acc at_ n h8 (by omega) hn]
          by_cases hb : 65536 < n
          · rw [if_pos hb]
          · rw [if_neg hb, decide_eq_true (by omega)]
        · simp only [lintelref03_Scan.j1]
          rw [if_pos trivial]
      · obtain ⟨hb1, hb2⟩ : n ≤ 65536 ∧ at_ + 8 + n ≤ s.size := by omega
        have hex := extract_some s at_ n
        have hwh := extract_whole s at_ n
        have hesz : (s.extract (at_ + 8) (at_ + 8 + n)).size = n := by
          rw [← data_length, hex, List.length_take, List.length_drop, hlen]; omega
        refine Ev.step (f := fun k => lintelref03_Scan.j1 k s acc (at_ : Int) (n : Int) false) (fun k => ?_) (Ev.step (fun k => rscan_j1 k s acc at_ n hb2 (by omega)) ?_)
        · rw [rscan_l0 k s acc at_ n h8 (by omega) hn, if_neg (by omega), decide_eq_false (by omega)]
        · generalize s.extract (at_ + 8) (at_ + 8 + n) = q at hex hesz ⊢
          generalize s.extract at_ (at_ + 8 + n) = q0 at hwh ⊢
          refine Ev.bind (f := fun k (bt : ByteArray × Int) => if bt.2 = 0 then
            (if q0.toList = bt.1.toList then (if acc.length < 8796093022208 then (lintelref03_Scan.l0 k s (acc ++ [q]) ((at_ + (8 + n) : Nat) : Int)) else none) else some (acc, (at_ : Int))) else some (acc, (at_ : Int))) (put_ref q) ?_
          have hans : putAns q = (mk (record q.data.toList), 0) := by
            unfold putAns
            rw [if_neg (by omega)]
          rw [hans]
          have hfu : first (s.data.toList.drop at_) = if record q.data.toList = (s.data.toList.drop at_).take (8 + n) then some q.data.toList else none := by
            unfold first
            rw [hn, if_neg (by omega), if_neg (by omega), hex]
          by_cases hr : record q.data.toList = (s.data.toList.drop at_).take (8 + n)
          · rw [if_pos hr] at hfu
            rw [told_some hfu]
            have hq : q.data.toList.length = n := by rw [data_length]; exact hesz
            refine Ev.congr (f := fun k => lintelref03_Scan.l0 k s (acc ++ [q]) ((at_ + (8 + n) : Nat) : Int)) (fun k => ?_) ?_
            · rw [if_pos rfl, mk_toList, toList_data, hwh, if_pos hr.symm, if_pos (by omega)]
            · have ih2 := ih (at_ + (8 + n)) (acc ++ [q]) (by omega) (by omega) (by rw [List.length_append]; simp only [List.length_cons, List.length_nil]; omega)
              rw [← List.drop_drop, List.append_assoc] at ih2
              rw [hq]
              simp only [List.map_cons, List.singleton_append, data_mk] at ih2 ⊢
              rw [Nat.add_assoc] at ih2
              exact ih2
          · rw [if_neg hr] at hfu
            rw [told_none hfu]
            simp only [List.map_nil, List.append_nil, Nat.add_zero]
            refine Ev.congr (f := fun _ => some (acc, (at_ : Int))) (fun k => ?_) (Ev.now _)
            rw [if_pos (by trivial), mk_toList, toList_data, hwh, if_neg (fun h => hr h.symm)]
    · have hf : first (s.data.toList.drop at_) = none := by
        unfold first
        rw [if_pos (by omega)]
      have t0 : ¬ (wrap64 ((at_ : Int) + 8)) ≤ (s.size : Int) := by rw [wrap_in (by omega) (by omega)]; omega
      rw [told_none hf]
      simp only [List.map_nil, List.append_nil, Nat.add_zero]
      refine Ev.step (f := fun _ => some (acc, (at_ : Int))) (fun k => ?_) (Ev.now _)
      simp only [lintelref03_Scan.l0]
      rw [if_neg t0]
theorem rscanned (s : ByteArray) (hs : s.size ≤ 70368744177664) : Ev (fun k => lintelref03_Scan.f k s) ((told s.data.toList).1.map mk, ((told s.data.toList).2 : Int)) := by
  have h := rscan_go s hs s.size 0 [] (by omega) (by omega) (by simp)
  simp only [List.drop_zero, List.nil_append, Nat.zero_add] at h
  exact h

/-! ### Two lists of the same texts -/
theorem same_l0 (a : List ByteArray) (ha : a.length ≤ 9223372036854775807) : ∀ (d i : Nat), a.length - i ≤ d → i ≤ a.length → Ev (fun k => lintelref03_Same.l0 k a a (i : Int)) true
  | 0, i, h, hi => by
    refine Ev.step (f := fun _ => some true) (fun k => ?_) (Ev.now _)
    simp only [lintelref03_Same.l0]
    rw [if_neg (by omega)]
  | d + 1, i, h, hi => by
    by_cases hlt : i < a.length
    · refine Ev.step (f := fun k => lintelref03_Same.l0 k a a ((i + 1 : Nat) : Int)) (fun k => ?_) (same_l0 a ha d (i + 1) (by omega) (by omega))
      simp only [lintelref03_Same.l0]
      rw [if_pos (by omega), if_pos (by omega), if_pos (by omega), if_pos (by trivial), wrap_in (by omega) (by omega)]
      rfl
    · refine Ev.step (f := fun _ => some true) (fun k => ?_) (Ev.now _)
      simp only [lintelref03_Same.l0]
      rw [if_neg (by omega)]
theorem same_go (a : List ByteArray) (ha : a.length ≤ 9223372036854775807) : Ev (fun k => lintelref03_Same.f k a a) true := by
  refine Ev.congr (f := fun k => lintelref03_Same.l0 k a a ((0 : Nat) : Int)) (fun k => ?_) (same_l0 a ha a.length 0 (by omega) (by omega))
  unfold lintelref03_Same.f
  rw [if_pos rfl]
  rfl

/-! ### The first answers -/
theorem awake_go : Ev (fun k => lintellaw03_awake.f k) true := by
  have h1 : crc [49, 50, 51, 52, 53, 54, 55, 56, 57] = 3421780262#32 := by decide +kernel
  have h2 : record [] = [0, 0, 0, 0, 28, 223, 68, 33] := by decide +kernel
  have hp := put_go (⟨#[]⟩ : ByteArray)
  have hpa : putAns (⟨#[]⟩ : ByteArray) = (mk [0, 0, 0, 0, 28, 223, 68, 33], 0) := by
    unfold putAns
    rw [if_neg (by decide)]
    exact congrArg (fun l => (mk l, (0 : Int))) h2
  rw [hpa] at hp
  have hc : mk [0, 0, 0, 0, 28, 223, 68, 33] ++ (⟨#[0]⟩ : ByteArray) = mk ([0, 0, 0, 0, 28, 223, 68, 33] ++ [0]) := mk_append _ [0]
  have hs := scanned (mk ([0, 0, 0, 0, 28, 223, 68, 33] ++ [0])) (by rw [mk_size]; decide)
  have ht : told (mk ([0, 0, 0, 0, 28, 223, 68, 33] ++ [0])).data.toList = ([[]], 8) := by
    rw [mk_data, ← h2]
    have e := told_joined [0] [[]] (by decide)
    have e2 : joined [[]] = record [] := List.append_nil _
    rw [e2] at e
    rw [e, told_none (by decide)]
    rw [record_length]
    rfl
  rw [ht] at hs
  have hu := sum_go (⟨#[49, 50, 51, 52, 53, 54, 55, 56, 57]⟩ : ByteArray) (by decide)
  have hu2 : N (crc (⟨#[49, 50, 51, 52, 53, 54, 55, 56, 57]⟩ : ByteArray).data.toList) = 3421780262 := by
    show N (crc [49, 50, 51, 52, 53, 54, 55, 56, 57]) = _
    rw [h1]
    decide
  rw [hu2] at hu
  obtain ⟨K1, hp⟩ := hp
  obtain ⟨K2, hs⟩ := hs
  obtain ⟨K3, hu⟩ := hu
  refine ⟨max K1 (max K2 K3), fun k hk => ?_⟩
  have e1 := hp k (by omega)
  have e2 := hs k (by omega)
  have e3 := hu k (by omega)
  simp only [] at e1 e2 e3
  show lintellaw03_awake.f k = some true
  unfold lintellaw03_awake.f
  rw [e1]
  simp only [Option.bind_some]
  rw [if_pos (by rw [mk_size]; decide), hc, e2]
  simp only [Option.bind_some]
  rw [e3]
  simp only [Option.bind_some]
  rw [if_pos (by trivial), mk_toList, if_pos (by trivial), if_pos (by trivial)]
  simp only [List.map_cons, List.map_nil, List.length_cons, List.length_nil]
  rw [if_pos (by decide), if_pos (by decide)]
  rw [if_pos (show (rdOf ByteArray.empty [mk []] 0).toList = [] from mk_toList [])]
  rw [if_pos (by decide)]

end Go.Proofs.Ytcpokaglofopbaa.Link
