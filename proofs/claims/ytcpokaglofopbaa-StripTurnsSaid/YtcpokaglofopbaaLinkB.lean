/- What the printed functions of layer 3 come to, part two: records, the scan, the lists of records. -/
import Derived.Test.YtcpokaglofopbaaLink
namespace Go.Proofs.Ytcpokaglofopbaa.Link
open Go.RowKit Go.Proofs.Ytcpokaglofopbaa.PAll Go.Proofs.YtcpokaglofopbaaW.PrintWords Go.Proofs.YtcpokaglofopbaaW.PrintLast Go.Proofs.Ytcpokaglofopbaa.Crc

/-! ### Records -/
theorem byte_of (a : Int) (n : Nat) (h0 : 0 ≤ a) (h : a % 256 = ((n : Int) % 256)) : UInt8.ofNat a.toNat = UInt8.ofNat n := by
  apply UInt8.toNat.inj
  rw [UInt8.toNat_ofNat', UInt8.toNat_ofNat']
  omega
theorem be_go (n : Nat) : strOfNums [((n : Int) / 16777216) % 256, ((n : Int) / 65536) % 256, ((n : Int) / 256) % 256, (n : Int) % 256] = mk (be n) := by
  apply bytes_ext
  rw [strOfNums_data, mk_data]
  simp only [List.map_cons, List.map_nil, be]
  rw [byte_of _ (n / 16777216) (by omega) (by omega), byte_of _ (n / 65536) (by omega) (by omega), byte_of _ (n / 256) (by omega) (by omega), byte_of _ n (by omega) (by omega)]
theorem be_ref (n : Nat) (h : n < 4294967296) : strOfNums [((n : Int) % 4294967296) / 16777216, (((n : Int) % 4294967296) / 65536) % 256, (((n : Int) % 4294967296) / 256) % 256, (n : Int) % 256] = mk (be n) := by
  apply bytes_ext
  rw [strOfNums_data, mk_data]
  simp only [List.map_cons, List.map_nil, be]
  rw [byte_of _ (n / 16777216) (by omega) (by omega), byte_of _ (n / 65536) (by omega) (by omega), byte_of _ (n / 256) (by omega) (by omega), byte_of _ n (by omega) (by omega)]
theorem le_go (x : BitVec 32) : strOfNums [(N x) % 256, (N x / 256) % 256, (N x / 65536) % 256, (N x / 16777216) % 256] = mk (le x) := by
  apply bytes_ext
  rw [strOfNums_data, mk_data]
  unfold N
  simp only [List.map_cons, List.map_nil, le]
  rw [byte_of _ x.toNat (by omega) (by omega), byte_of _ (x.toNat / 256) (by omega) (by omega), byte_of _ (x.toNat / 65536) (by omega) (by omega), byte_of _ (x.toNat / 16777216) (by omega) (by omega)]
theorem le_ref (x : BitVec 32) : strOfNums [(Int.tmod (N x) 256) % 256, ((Int.tdiv (N x) 256) % 4294967296) % 256, ((Int.tdiv (N x) 65536) % 4294967296) % 256, ((Int.tdiv (N x) 16777216) % 4294967296) % 256] = mk (le x) := by
  have h0 : 0 ≤ N x := Int.natCast_nonneg _
  rw [Int.tmod_eq_emod_of_nonneg h0, Int.tdiv_eq_ediv_of_nonneg h0, Int.tdiv_eq_ediv_of_nonneg h0, Int.tdiv_eq_ediv_of_nonneg h0]
  apply bytes_ext
  rw [strOfNums_data, mk_data]
  have h1 := x.isLt
  unfold N
  simp only [List.map_cons, List.map_nil, le]
  rw [byte_of _ x.toNat (by omega) (by omega), byte_of _ (x.toNat / 256) (by omega) (by omega), byte_of _ (x.toNat / 65536) (by omega) (by omega), byte_of _ (x.toNat / 16777216) (by omega) (by omega)]

def putAns (p : ByteArray) : ByteArray × Int := if 65536 < p.size then (⟨#[]⟩, 30) else (mk (record p.data.toList), 0)
theorem cat_size (a : List UInt8) (p : ByteArray) : (mk a ++ p).size = a.length + p.size := by rw [ByteArray.size_append, mk_size]
theorem cat_data (a : List UInt8) (p : ByteArray) : (mk a ++ p).data.toList = a ++ p.data.toList := by rw [ByteArray.toList_data_append, mk_data]
theorem record_bytes (p : ByteArray) : mk (be p.size) ++ mk (le (crc (be p.size ++ p.data.toList))) ++ p = mk (record p.data.toList) := by
  apply bytes_ext
  rw [ByteArray.toList_data_append, mk_append, mk_data, mk_data]
  unfold record
  rw [data_length]
theorem put_go (p : ByteArray) : Ev (fun k => strip_Put.f k p) (putAns p) := by
  unfold putAns
  by_cases h : 65536 < p.size
  · refine Ev.congr (f := fun _ => some (⟨#[]⟩, 30)) (fun k => ?_) (by rw [if_pos h]; exact Ev.now _)
    unfold strip_Put.f
    rw [if_pos (by omega)]
  · rw [if_neg h]
    refine Ev.congr (f := fun k => (strip_Sum.f k (mk (be p.size) ++ p)).bind fun t => (some (mk (be p.size) ++ strOfNums [t % 256, (t / 256) % 256, (t / 65536) % 256, (t / 16777216) % 256] ++ p, (0 : Int)))) (fun k => ?_) ?_
    · have hl : strip_long.f (p.size : Int) = some (mk (be p.size)) := by
        unfold strip_long.f
        rw [← be_go]
      have hs : ∀ x : List Int, x.length = 4 → (strOfNums x).size = 4 := fun x hx => by
        rw [← data_length, strOfNums_data, List.length_map, hx]
      unfold strip_Put.f
      rw [if_neg (by omega), hl]
      simp only [Option.bind_some]
      rw [if_pos (by rw [mk_size, be_length]; omega)]
      congr 1
      funext t
      rw [if_pos (by rw [mk_size, be_length, hs _ rfl]; omega), if_pos (by rw [cat_size, be_length, hs _ rfl]; omega)]
    · refine Ev.bind (f := fun _ t => some (mk (be p.size) ++ strOfNums [t % 256, (t / 256) % 256, (t / 65536) % 256, (t / 16777216) % 256] ++ p, (0 : Int))) (sum_go _ (by rw [cat_size, be_length]; omega)) ?_
      rw [cat_data, le_go, record_bytes]
      exact Ev.now _
theorem put_ref (p : ByteArray) : Ev (fun k => lintelref03_Put.f k p) (putAns p) := by
  unfold putAns
  by_cases h : 65536 < p.size
  · refine Ev.congr (f := fun _ => some (⟨#[]⟩, 30)) (fun k => ?_) (by rw [if_pos h]; exact Ev.now _)
    unfold lintelref03_Put.f
    rw [if_pos (by omega)]
  · rw [if_neg h]
    refine Ev.congr (f := fun k => (lintelref03_Sum.f k (mk (be p.size) ++ p)).bind fun t => (some (mk (be p.size) ++ strOfNums [(Int.tmod t 256) % 256, ((Int.tdiv t 256) % 4294967296) % 256, ((Int.tdiv t 65536) % 4294967296) % 256, ((Int.tdiv t 16777216) % 4294967296) % 256] ++ p, (0 : Int)))) (fun k => ?_) ?_
    · have hs : ∀ x : List Int, x.length = 4 → (strOfNums x).size = 4 := fun x hx => by
        rw [← data_length, strOfNums_data, List.length_map, hx]
      unfold lintelref03_Put.f
      rw [if_neg (by omega)]
      simp only [Option.bind_some]
      rw [be_ref _ (by omega)]
      rw [if_pos (by rw [mk_size, be_length]; omega)]
      congr 1
      funext t
      rw [if_pos (by rw [mk_size, be_length, hs _ rfl]; omega), if_pos (by rw [cat_size, be_length, hs _ rfl]; omega)]
    · refine Ev.bind (f := fun _ t => some (mk (be p.size) ++ strOfNums [(Int.tmod t 256) % 256, ((Int.tdiv t 256) % 4294967296) % 256, ((Int.tdiv t 65536) % 4294967296) % 256, ((Int.tdiv t 16777216) % 4294967296) % 256] ++ p, (0 : Int))) (sum_ref _ (by rw [cat_size, be_length]; omega)) ?_
      rw [cat_data, le_ref, record_bytes]
      exact Ev.now _

/-! ### The number of the first four bytes -/
theorem or_join (x y : Int) (i : Nat) (hx₀ : 0 ≤ x) (hx : x % 2 ^ i = 0) (hx₁ : x < 4294967296) (hy₀ : 0 ≤ y) (hy : y < 2 ^ i) (hi : i ≤ 32) : Go.bits .or .i64 x y = x + y := by
  refine bits_join .i64 63 (by decide) (fun n h0 h1 => by rw [IntKind.wrap_i64]; omega) i x y hx₀ hx (by omega) hy₀ hy ?_
  have : (2 : Int) ^ i ≤ 2 ^ 32 := by exact_mod_cast Nat.pow_le_pow_right (by decide) hi
  omega
theorem num_go (a b c d : Int) (ha : 0 ≤ a ∧ a ≤ 255) (hb : 0 ≤ b ∧ b ≤ 255) (hc : 0 ≤ c ∧ c ≤ 255) (hd : 0 ≤ d ∧ d ≤ 255) :
    Go.bits .or .i64 (Go.bits .or .i64 (Go.bits .or .i64 (wrap64 ((wrap64 a) * 16777216)) (wrap64 ((wrap64 b) * 65536))) (wrap64 ((wrap64 c) * 256))) (wrap64 d) = ((a * 256 + b) * 256 + c) * 256 + d := by
  rw [wrap_in (n := a) (by omega) (by omega), wrap_in (n := b) (by omega) (by omega), wrap_in (n := c) (by omega) (by omega), wrap_in (n := d) (by omega) (by omega)]
  rw [wrap_in (n := a * 16777216) (by omega) (by omega), wrap_in (n := b * 65536) (by omega) (by omega), wrap_in (n := c * 256) (by omega) (by omega)]
  rw [or_join (a * 16777216) (b * 65536) 24 (by omega) (by omega) (by omega) (by omega) (by omega) (by omega)]
  rw [or_join (a * 16777216 + b * 65536) (c * 256) 16 (by omega) (by omega) (by omega) (by omega) (by omega) (by omega)]
  rw [or_join (a * 16777216 + b * 65536 + c * 256) d 8 (by omega) (by omega) (by omega) (by omega) (by omega) (by omega)]
  omega
theorem num_ref (a b c d : Int) (ha : 0 ≤ a ∧ a ≤ 255) (hb : 0 ≤ b ∧ b ≤ 255) (hc : 0 ≤ c ∧ c ≤ 255) (hd : 0 ≤ d ∧ d ≤ 255) :
    wrap64 ((wrap64 ((wrap64 ((wrap64 ((wrap64 ((wrap64 ((wrap64 a) * 256)) + (wrap64 b))) * 256)) + (wrap64 c))) * 256)) + (wrap64 d)) = ((a * 256 + b) * 256 + c) * 256 + d := by
  rw [wrap_in (n := a) (by omega) (by omega), wrap_in (n := b) (by omega) (by omega), wrap_in (n := c) (by omega) (by omega), wrap_in (n := d) (by omega) (by omega)]
  rw [wrap_in (n := a * 256) (by omega) (by omega), wrap_in (n := a * 256 + b) (by omega) (by omega), wrap_in (n := (a * 256 + b) * 256) (by omega) (by omega),
    wrap_in (n := (a * 256 + b) * 256 + c) (by omega) (by omega), wrap_in (n := ((a * 256 + b) * 256 + c) * 256) (by omega) (by omega), wrap_in (n := ((a * 256 + b) * 256 + c) * 256 + d) (by omega) (by omega)]
theorem num_bytes (l : List UInt8) (h : 4 ≤ l.length) : ((num l : Nat) : Int) = (((((l[0]'(by omega)).toNat : Int) * (256 : Int) + ((l[1]'(by omega)).toNat : Int)) * (256 : Int) + ((l[2]'(by omega)).toNat : Int)) * (256 : Int) + ((l[3]'(by omega)).toNat : Int)) := by
  match l, h with
  | a :: b :: c :: d :: l, _ =>
    simp only [num, List.getElem_cons_zero, List.getElem_cons_succ]
    omega

theorem byte_range (b : UInt8) : 0 ≤ (b.toNat : Int) ∧ (b.toNat : Int) ≤ 255 := by have := b.toNat_lt; omega
theorem first_f (k : Nat) (s : ByteArray) (m : Nat) (h8 : 8 ≤ s.size) (h1 : m ≤ 65536) (h2 : m + 8 ≤ s.size) (hs : s.size ≤ 140737488351232) :
    Go.bits .or .i64 (Go.bits .or .i64 (Go.bits .or .i64 (wrap64 ((wrap64 (bt s 0)) * 16777216)) (wrap64 ((wrap64 (bt s 1)) * 65536))) (wrap64 ((wrap64 (bt s 2)) * 256))) (wrap64 (bt s 3)) = (m : Int) →
    strip_first.f k s = (strip_Put.f k (s.extract 8 (8 + m))).bind fun bt => some (s.extract 8 (8 + m), bt.1.toList == (s.extract 0 (8 + m)).toList) := by
  have e8 : wrap64 (8 + (m : Int)) = 8 + (m : Int) := wrap_in (by omega) (by omega)
  have et : (8 + (m : Int)).toNat = 8 + m := by omega
  have ew : wrap64 ((s.size : Int) - 8) = (s.size : Int) - 8 := wrap_in (by omega) (by omega)
  have t1 : ¬ (s.size : Int) < 8 := by omega
  have t2 : (0 : Int) < (s.size : Int) := by omega
  have t3 : (1 : Int) < (s.size : Int) := by omega
  have t4 : (2 : Int) < (s.size : Int) := by omega
  have t5 : (3 : Int) < (s.size : Int) := by omega
  have t6 : ¬ (m : Int) > 65536 := by omega
  have t7 : ¬ (m : Int) > (s.size : Int) - 8 := by omega
  have t8 : (8 : Int) ≤ 8 + (m : Int) := by omega
  have t9 : 8 + (m : Int) ≤ (s.size : Int) := by omega
  have t10 : (0 : Int) ≤ 8 + (m : Int) := by omega
  intro hgo
  unfold strip_first.f
  rw [hgo, if_neg t1, if_pos t2, if_pos t3, if_pos t4, if_pos t5, if_neg t6, ew, if_neg t7, e8, if_pos t8, if_pos t9, et]
  refine Option.bind_congr (fun bt _ => ?_)
  rw [if_pos t10]

/-- What 'first' tells. -/
def firstAns (l : List UInt8) (r : ByteArray × Bool) : Prop := (∀ p, first l = some p → r = (mk p, true)) ∧ (first l = none → r.2 = false)
theorem first_go (s : ByteArray) (hs : s.size ≤ 140737488351232) : ∃ r, Ev (fun k => strip_first.f k s) r ∧ firstAns s.data.toList r := by
  have hlen := data_length s
  by_cases h8 : s.size < 8
  · refine ⟨(⟨#[]⟩, false), Ev.congr (f := fun _ => some (⟨#[]⟩, false)) (fun k => ?_) (Ev.now _), ?_, fun _ => rfl⟩
    · unfold strip_first.f
      rw [if_pos (by omega)]
    · intro p hp
      unfold first at hp
      rw [if_pos (by omega)] at hp
      cases hp
  · have b0 : bt s 0 = ((s.data.toList[0]'(by omega)).toNat : Int) := bt_get s 0 (by omega)
    have b1 : bt s 1 = ((s.data.toList[1]'(by omega)).toNat : Int) := bt_get s 1 (by omega)
    have b2 : bt s 2 = ((s.data.toList[2]'(by omega)).toNat : Int) := bt_get s 2 (by omega)
    have b3 : bt s 3 = ((s.data.toList[3]'(by omega)).toNat : Int) := bt_get s 3 (by omega)
    have hn := num_bytes s.data.toList (by omega)
    have hgo := num_go _ _ _ _ (byte_range (s.data.toList[0]'(by omega))) (byte_range (s.data.toList[1]'(by omega))) (byte_range (s.data.toList[2]'(by omega))) (byte_range (s.data.toList[3]'(by omega)))
    rw [← hn, ← b0, ← b1, ← b2, ← b3] at hgo
    by_cases hbig : 65536 < num s.data.toList ∨ s.data.toList.length - 8 < num s.data.toList
    · refine ⟨(⟨#[]⟩, false), Ev.congr (f := fun _ => some (⟨#[]⟩, false)) (fun k => ?_) (Ev.now _), ?_, fun _ => rfl⟩
      · unfold strip_first.f
        rw [if_neg (by omega), if_pos (by omega), if_pos (by omega), if_pos (by omega), if_pos (by omega)]
        rw [hgo]
        by_cases hb : 65536 < num s.data.toList
        · rw [if_pos (by omega)]
        · rw [if_neg (by omega), if_pos (by rw [wrap_in (by omega) (by omega)]; omega)]
      · intro p hp
        unfold first at hp
        rw [if_neg (by omega), if_pos hbig] at hp
        cases hp
    · have hun : first s.data.toList = if record ((s.data.toList.drop 8).take (num s.data.toList)) = s.data.toList.take (8 + num s.data.toList) then some ((s.data.toList.drop 8).take (num s.data.toList)) else none := by
        unfold first
        rw [if_neg (by omega), if_neg hbig]
      generalize num s.data.toList = m at hgo hbig hun
      have hp : (s.extract 8 (8 + m)).data.toList = (s.data.toList.drop 8).take m := by
        rw [extract_data, List.drop_take, Nat.add_sub_cancel_left]
      have hsz : (s.extract 8 (8 + m)).size = m := by rw [← data_length, hp, List.length_take, List.length_drop]; omega
      have hq : (s.extract 0 (8 + m)).data.toList = s.data.toList.take (8 + m) := by rw [extract_data, List.drop_zero]
      generalize hq8 : s.extract 8 (8 + m) = q at hp hsz
      generalize hq0 : s.extract 0 (8 + m) = q0 at hq
      refine ⟨(q, (mk (record q.data.toList)).toList == q0.toList), ?_, ?_⟩
      · have hf : ∀ k, strip_first.f k s = (strip_Put.f k q).bind fun bt => some (q, bt.1.toList == q0.toList) := fun k => by
          rw [← hq8, ← hq0]
          exact first_f k s m (by omega) (by omega) (by omega) hs hgo
        refine Ev.congr hf ?_
        refine Ev.bind (f := fun _ (bt : ByteArray × Int) => some (q, bt.1.toList == q0.toList)) (put_go _) ?_
        have hans : putAns q = (mk (record q.data.toList), 0) := by
          unfold putAns
          rw [if_neg (by omega)]
        rw [hans]
        exact Ev.now _
      · rw [mk_toList, toList_data, hp, hq]
        unfold firstAns
        rw [hun]
        by_cases hr : record ((s.data.toList.drop 8).take m) = s.data.toList.take (8 + m)
        · rw [if_pos hr]
          refine ⟨fun p hpp => ?_, fun h => by cases h⟩
          injection hpp with hpp
          have hx : q = mk p := bytes_ext (by rw [hp, mk_data]; exact hpp)
          rw [hx, hr]
          simp
        · rw [if_neg hr]
          refine ⟨fun p hpp => (by cases hpp), fun _ => ?_⟩
          exact beq_eq_false_iff_ne.mpr hr

/-! ### The scan -/
theorem scan_go (s : ByteArray) (hs : s.size ≤ 70368744177664) : ∀ (n at_ : Nat) (acc : List ByteArray), s.size - at_ ≤ n → at_ ≤ s.size → 8 * acc.length ≤ at_ →
    Ev (fun k => strip_Scan.l0 k s acc (at_ : Int)) (acc ++ (told (s.data.toList.drop at_)).1.map mk, ((at_ + (told (s.data.toList.drop at_)).2 : Nat) : Int)) := by
  intro n
  induction n with
  | zero =>
    intro at_ acc hn hat hacc
    obtain ⟨r, hr, h1, h2⟩ := first_go (s.extract at_ s.size) (by rw [ByteArray.size_extract]; omega)
    have hd : (s.extract at_ s.size).data.toList = s.data.toList.drop at_ := by rw [extract_data, List.take_of_length_le (by rw [data_length]; omega)]
    rw [hd] at h1 h2
    have hf : first (s.data.toList.drop at_) = none := by
      unfold first
      rw [if_pos (by rw [List.length_drop, data_length]; omega)]
    refine Ev.step (f := fun k => (strip_first.f k (s.extract at_ s.size)).bind fun bt => if bt.2 = true then (if acc.length < 8796093022208 then (strip_Scan.l0 k s (acc ++ [bt.1]) (wrap64 ((at_ : Int) + (wrap64 (8 + (bt.1.size : Int)))))) else (none)) else (some (acc, (at_ : Int)))) (fun k => ?_) ?_
    · simp only [strip_Scan.l0]
      rw [if_pos (by omega), if_pos (by omega), Int.toNat_natCast]
    · refine Ev.bind (f := fun k (bt : ByteArray × Bool) => if bt.2 = true then (if acc.length < 8796093022208 then (strip_Scan.l0 k s (acc ++ [bt.1]) (wrap64 ((at_ : Int) + (wrap64 (8 + (bt.1.size : Int)))))) else (none)) else (some (acc, (at_ : Int)))) hr ?_
      rw [told_none hf]
      simp only [List.map_nil, List.append_nil, Nat.add_zero]
      exact Ev.congr (fun k => if_neg (by rw [h2 hf]; decide)) (Ev.now _)
  | succ n ih =>
    intro at_ acc hn hat hacc
    obtain ⟨r, hr, h1, h2⟩ := first_go (s.extract at_ s.size) (by rw [ByteArray.size_extract]; omega)
    have hd : (s.extract at_ s.size).data.toList = s.data.toList.drop at_ := by rw [extract_data, List.take_of_length_le (by rw [data_length]; omega)]
    rw [hd] at h1 h2
    refine Ev.step (f := fun k => (strip_first.f k (s.extract at_ s.size)).bind fun bt => if bt.2 = true then (if acc.length < 8796093022208 then (strip_Scan.l0 k s (acc ++ [bt.1]) (wrap64 ((at_ : Int) + (wrap64 (8 + (bt.1.size : Int)))))) else (none)) else (some (acc, (at_ : Int)))) (fun k => ?_) ?_
    · simp only [strip_Scan.l0]
      rw [if_pos (by omega), if_pos (by omega), Int.toNat_natCast]
    · refine Ev.bind (f := fun k (bt : ByteArray × Bool) => if bt.2 = true then (if acc.length < 8796093022208 then (strip_Scan.l0 k s (acc ++ [bt.1]) (wrap64 ((at_ : Int) + (wrap64 (8 + (bt.1.size : Int)))))) else (none)) else (some (acc, (at_ : Int)))) hr ?_
      cases hf : first (s.data.toList.drop at_) with
      | none =>
        rw [told_none hf]
        simp only [List.map_nil, List.append_nil, Nat.add_zero]
        exact Ev.congr (fun k => if_neg (by rw [h2 hf]; decide)) (Ev.now _)
      | some p =>
        have hr2 := h1 p hf
        subst hr2
        have hl := first_length hf
        rw [List.length_drop, data_length] at hl
        rw [told_some hf]
        refine Ev.congr (f := fun k => strip_Scan.l0 k s (acc ++ [mk p]) (wrap64 ((at_ : Int) + (wrap64 (8 + ((mk p).size : Int)))))) (fun k => by rw [if_pos rfl, if_pos (by omega)]) ?_
        have e : wrap64 ((at_ : Int) + (wrap64 (8 + ((mk p).size : Int)))) = ((at_ + (8 + p.length) : Nat) : Int) := by
          rw [mk_size, wrap_in (n := 8 + (p.length : Int)) (by omega) (by omega), wrap_in (by omega) (by omega)]
          omega
        simp only [e]
        have ih2 := ih (at_ + (8 + p.length)) (acc ++ [mk p]) (by omega) (by omega) (by rw [List.length_append]; simp only [List.length_cons, List.length_nil]; omega)
        rw [← List.drop_drop, List.append_assoc] at ih2
        simp only [List.map_cons, List.singleton_append] at ih2 ⊢
        rw [Nat.add_assoc] at ih2
        exact ih2
theorem scanned (s : ByteArray) (hs : s.size ≤ 70368744177664) : Ev (fun k => strip_Scan.f k s) ((told s.data.toList).1.map mk, ((told s.data.toList).2 : Int)) := by
  have h := scan_go s hs s.size 0 [] (by omega) (by omega) (by simp)
  simp only [List.drop_zero, List.nil_append, Nat.zero_add] at h
  exact h

end Go.Proofs.Ytcpokaglofopbaa.Link
