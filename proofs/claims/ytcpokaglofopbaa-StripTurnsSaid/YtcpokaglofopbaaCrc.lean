/- The plain theory of layer 3 (strip): the sum of bytes as a fold over bit vectors, records, the scan; no program in sight. -/
import Derived.WalkKit
namespace Go.Proofs.Ytcpokaglofopbaa.Crc

/-! ### The sum -/
def poly : BitVec 32 := 0xEDB88320#32
def stp (x : BitVec 32) : BitVec 32 := if x.getLsbD 0 = true then (x >>> 1) ^^^ poly else x >>> 1
def steps : Nat → BitVec 32 → BitVec 32
  | 0, x => x
  | n + 1, x => steps n (stp x)
def eat (x : BitVec 32) (b : UInt8) : BitVec 32 := steps 8 (x ^^^ BitVec.ofNat 32 b.toNat)
def eats (x : BitVec 32) (l : List UInt8) : BitVec 32 := l.foldl eat x
def crc (l : List UInt8) : BitVec 32 := ~~~ (eats (BitVec.allOnes 32) l)

theorem xor_cancel {x y z : BitVec 32} (h : x ^^^ z = y ^^^ z) : x = y := by
  have e := congrArg (fun u => u ^^^ z) h
  simpa only [BitVec.xor_assoc, BitVec.xor_self, BitVec.xor_zero] using e
theorem xor_cancel' {x y z : BitVec 32} (h : z ^^^ x = z ^^^ y) : x = y := by
  rw [BitVec.xor_comm z x, BitVec.xor_comm z y] at h
  exact xor_cancel h

theorem stp_top (x : BitVec 32) : (stp x).getLsbD 31 = x.getLsbD 0 := by
  unfold stp
  split
  · rename_i h
    rw [BitVec.getLsbD_xor, BitVec.getLsbD_ushiftRight, h]
    have : poly.getLsbD 31 = true := by decide
    rw [this, BitVec.getLsbD_of_ge x (1 + 31) (by decide)]
    rfl
  · rename_i h
    rw [BitVec.getLsbD_ushiftRight, BitVec.getLsbD_of_ge x (1 + 31) (by decide)]
    exact (Bool.eq_false_iff.mpr h).symm

theorem shift_inj {x y : BitVec 32} (h : x >>> 1 = y >>> 1) (h0 : x.getLsbD 0 = y.getLsbD 0) : x = y := by
  apply BitVec.eq_of_getLsbD_eq
  intro i _
  cases i with
  | zero => exact h0
  | succ i =>
    have e := congrArg (fun z => z.getLsbD i) h
    simp only [BitVec.getLsbD_ushiftRight] at e
    rw [Nat.add_comm 1 i] at e
    exact e

theorem stp_inj {x y : BitVec 32} (h : stp x = stp y) : x = y := by
  have h0 : x.getLsbD 0 = y.getLsbD 0 := by rw [← stp_top x, ← stp_top y, h]
  refine shift_inj ?_ h0
  unfold stp at h
  rw [h0] at h
  split at h
  · exact xor_cancel h
  · exact h

theorem steps_inj : ∀ (n : Nat) {x y : BitVec 32}, steps n x = steps n y → x = y
  | 0, _, _, h => h
  | n + 1, _, _, h => stp_inj (steps_inj n h)

theorem eat_inj {x y : BitVec 32} {b : UInt8} (h : eat x b = eat y b) : x = y := xor_cancel (steps_inj 8 h)
theorem eat_byte {x : BitVec 32} {b c : UInt8} (h : eat x b = eat x c) : b = c := by
  have e := xor_cancel' (steps_inj 8 h)
  have e2 := congrArg BitVec.toNat e
  rw [BitVec.toNat_ofNat, BitVec.toNat_ofNat] at e2
  have hb := b.toNat_lt
  have hc := c.toNat_lt
  apply UInt8.toNat.inj
  omega
theorem eats_inj : ∀ (l : List UInt8) {x y : BitVec 32}, eats x l = eats y l → x = y
  | [], _, _, h => h
  | _ :: l, _, _, h => eat_inj (eats_inj l h)
theorem eats_append (x : BitVec 32) (l m : List UInt8) : eats x (l ++ m) = eats (eats x l) m := by unfold eats; exact List.foldl_append
/-- Two texts that differ in one byte have two sums. -/
theorem crc_byte {a c : List UInt8} {b d : UInt8} (h : crc (a ++ b :: c) = crc (a ++ d :: c)) : b = d := by
  unfold crc at h
  have h2 := congrArg (fun z => ~~~ z) h
  simp only [BitVec.not_not] at h2
  rw [eats_append, eats_append] at h2
  exact eat_byte (eats_inj c h2)

/-! ### Four bytes of a number -/
def be (n : Nat) : List UInt8 := [UInt8.ofNat (n / 16777216), UInt8.ofNat (n / 65536), UInt8.ofNat (n / 256), UInt8.ofNat n]
def le (x : BitVec 32) : List UInt8 := [UInt8.ofNat x.toNat, UInt8.ofNat (x.toNat / 256), UInt8.ofNat (x.toNat / 65536), UInt8.ofNat (x.toNat / 16777216)]
theorem be_length (n : Nat) : (be n).length = 4 := rfl
theorem le_length (x : BitVec 32) : (le x).length = 4 := rfl
theorem le_inj {x y : BitVec 32} (h : le x = le y) : x = y := by
  unfold le at h
  simp only [List.cons.injEq, and_true] at h
  obtain ⟨h0, h1, h2, h3⟩ := h
  have g0 := congrArg UInt8.toNat h0
  have g1 := congrArg UInt8.toNat h1
  have g2 := congrArg UInt8.toNat h2
  have g3 := congrArg UInt8.toNat h3
  simp only [UInt8.toNat_ofNat'] at g0 g1 g2 g3
  have hx := x.isLt
  have hy := y.isLt
  apply BitVec.eq_of_toNat_eq
  omega
/-- The number of the first four bytes. -/
def num : List UInt8 → Nat
  | a :: b :: c :: d :: _ => ((a.toNat * 256 + b.toNat) * 256 + c.toNat) * 256 + d.toNat
  | _ => 0
theorem num_be (n : Nat) (l : List UInt8) (h : n < 4294967296) : num (be n ++ l) = n := by
  unfold be
  simp only [List.cons_append, num, UInt8.toNat_ofNat']
  omega

/-! ### Records -/
def record (p : List UInt8) : List UInt8 := be p.length ++ le (crc (be p.length ++ p)) ++ p
theorem record_length (p : List UInt8) : (record p).length = 8 + p.length := by
  unfold record
  rw [List.length_append, List.length_append, be_length, le_length]
/-- The payload of the record that stands at the beginning. -/
def first (l : List UInt8) : Option (List UInt8) :=
  if l.length < 8 then none
  else if 65536 < num l ∨ l.length - 8 < num l then none
  else if record ((l.drop 8).take (num l)) = l.take (8 + num l) then some ((l.drop 8).take (num l)) else none

theorem first_length {l p : List UInt8} (h : first l = some p) : 8 + p.length ≤ l.length ∧ p.length ≤ 65536 ∧ p = (l.drop 8).take p.length := by
  unfold first at h
  split at h
  · cases h
  · split at h
    · cases h
    · split at h
      · injection h with h
        rename_i h1 h2 h3
        have hl : ((l.drop 8).take (num l)).length = num l := by
          rw [List.length_take, List.length_drop]; omega
        rw [h] at hl
        rw [hl]
        exact ⟨by omega, by omega, h.symm⟩
      · cases h

theorem num_record (p t : List UInt8) (hp : p.length ≤ 65536) : num (record p ++ t) = p.length := by
  unfold record
  rw [List.append_assoc, List.append_assoc]
  exact num_be _ _ (by omega)

theorem drop8_record (p t : List UInt8) : (record p ++ t).drop 8 = p ++ t := by
  unfold record
  rw [List.append_assoc]
  exact List.drop_left' (by rw [List.length_append, be_length, le_length])

theorem first_record (p t : List UInt8) (hp : p.length ≤ 65536) : first (record p ++ t) = some p := by
  unfold first
  have hn := num_record p t hp
  have hl : (record p ++ t).length = 8 + p.length + t.length := by rw [List.length_append, record_length]
  rw [hn, if_neg (by omega), if_neg (by omega), drop8_record]
  rw [List.take_left' rfl, List.take_left' (record_length p), if_pos rfl]

/-- A record in which one byte behind its length has turned is no record. -/
theorem first_turned (p : List UInt8) (hp : p.length ≤ 65536) (i : Nat) (h4 : 4 ≤ i) (hi : i < 8 + p.length) (b : UInt8) (hb : (record p)[i]? ≠ some b) :
    first ((record p).set i b) = none := by
  unfold first
  have hlen : ((record p).set i b).length = 8 + p.length := by rw [List.length_set, record_length]
  have hnum : num ((record p).set i b) = p.length := by
    have e : (record p).set i b = be p.length ++ (le (crc (be p.length ++ p)) ++ p).set (i - 4) b := by
      unfold record
      rw [List.append_assoc, List.set_append_right _ _ (by rw [be_length]; exact h4), be_length]
    rw [e]
    exact num_be _ _ (by omega)
  rw [hnum, if_neg (by omega), if_neg (by omega)]
  rw [if_neg]
  intro h
  rw [List.take_of_length_le (by omega : ((record p).set i b).length ≤ 8 + p.length)] at h
  by_cases h8 : i < 8
  · -- the payload has not turned
    have e : ((record p).set i b).drop 8 = p := by
      rw [List.drop_set_of_lt h8]
      have := drop8_record p []
      rwa [List.append_nil, List.append_nil] at this
    rw [e, List.take_of_length_le (Nat.le_refl _)] at h
    apply hb
    rw [h, List.getElem?_set_self (by rw [record_length]; exact hi)]
  · -- a byte of the payload has turned
    have e : (record p).set i b = be p.length ++ le (crc (be p.length ++ p)) ++ p.set (i - 8) b := by
      unfold record
      rw [List.set_append_right _ _ (by rw [List.length_append, be_length, le_length]; omega), List.length_append, be_length, le_length]
    have e8 : ((record p).set i b).drop 8 = p.set (i - 8) b := by
      rw [e]
      exact List.drop_left' (by rw [List.length_append, be_length, le_length])
    rw [e8, List.take_of_length_le (by rw [List.length_set]; exact Nat.le_refl _)] at h
    rw [e] at h
    unfold record at h
    rw [List.length_set] at h
    have h2 := List.append_cancel_left (List.append_cancel_right h)
    have h3 := le_inj h2
    have hlt : i - 8 < p.length := by omega
    have hs : p = p.take (i - 8) ++ p[i - 8] :: p.drop (i - 8 + 1) := by
      rw [← List.drop_eq_getElem_cons hlt, List.take_append_drop]
    have hs2 : p.set (i - 8) b = p.take (i - 8) ++ b :: p.drop (i - 8 + 1) := by
      rw [List.set_eq_take_append_cons_drop, if_pos hlt]
    rw [hs2] at h3
    generalize be p.length = B at h3
    rw [show B ++ p = B ++ (p.take (i - 8) ++ p[i - 8] :: p.drop (i - 8 + 1)) from congrArg (B ++ ·) hs] at h3
    rw [← List.append_assoc, ← List.append_assoc] at h3
    have h4' := crc_byte h3
    apply hb
    unfold record
    rw [List.getElem?_append_right (by rw [List.length_append, be_length, le_length]; omega), List.length_append, be_length, le_length]
    rw [h4']
    exact List.getElem?_eq_getElem hlt

/-! ### The scan -/
def scan : Nat → List UInt8 → List (List UInt8) × Nat
  | 0, _ => ([], 0)
  | k + 1, l => match first l with
    | none => ([], 0)
    | some p => (p :: (scan k (l.drop (8 + p.length))).1, 8 + p.length + (scan k (l.drop (8 + p.length))).2)

theorem scan_more : ∀ (k j : Nat) (l : List UInt8), l.length < k → l.length < j → scan k l = scan j l
  | 0, _, _, h, _ => absurd h (by omega)
  | _ + 1, 0, _, _, h => absurd h (by omega)
  | k + 1, j + 1, l, hk, hj => by
    unfold scan
    cases hf : first l with
    | none => rfl
    | some p =>
      have := first_length hf
      have e := scan_more k j (l.drop (8 + p.length)) (by rw [List.length_drop]; omega) (by rw [List.length_drop]; omega)
      simp only [e]

/-- All the scan of a text tells. -/
def told (l : List UInt8) : List (List UInt8) × Nat := scan (l.length + 1) l
theorem told_none {l : List UInt8} (h : first l = none) : told l = ([], 0) := by
  unfold told scan
  rw [h]
theorem told_some {l p : List UInt8} (h : first l = some p) : told l = (p :: (told (l.drop (8 + p.length))).1, 8 + p.length + (told (l.drop (8 + p.length))).2) := by
  have e : told l = (p :: (scan l.length (l.drop (8 + p.length))).1, 8 + p.length + (scan l.length (l.drop (8 + p.length))).2) := by
    conv => lhs; unfold told scan
    rw [h]
  have hl := first_length h
  rw [e, scan_more l.length ((l.drop (8 + p.length)).length + 1) _ (by rw [List.length_drop]; omega) (by omega)]
  rfl

theorem told_bounds : ∀ (n : Nat) (l : List UInt8), l.length ≤ n → (told l).2 ≤ l.length ∧ 8 * (told l).1.length ≤ l.length
  | 0, l, h => by
    have : first l = none := by unfold first; rw [if_pos (by omega)]
    rw [told_none this]
    exact ⟨Nat.zero_le _, Nat.zero_le _⟩
  | n + 1, l, h => by
    cases hf : first l with
    | none =>
      rw [told_none hf]
      exact ⟨Nat.zero_le _, Nat.zero_le _⟩
    | some p =>
      rw [told_some hf]
      have hl := first_length hf
      have ih := told_bounds n (l.drop (8 + p.length)) (by rw [List.length_drop]; omega)
      rw [List.length_drop] at ih
      simp only [List.length_cons]
      omega

/-- Records one behind the other, and where each ends. -/
def joined : List (List UInt8) → List UInt8
  | [] => []
  | p :: ps => record p ++ joined ps
def ends : Nat → List (List UInt8) → List Nat
  | n, [] => [n]
  | n, p :: ps => n :: ends (n + (8 + p.length)) ps

theorem joined_append (a b : List (List UInt8)) : joined (a ++ b) = joined a ++ joined b := by
  induction a with
  | nil => rfl
  | cons p a ih => simp only [List.cons_append, joined, ih, List.append_assoc]

/-- What stands behind records: they are told first. -/
theorem told_joined (more : List UInt8) : ∀ ps : List (List UInt8), (∀ p ∈ ps, p.length ≤ 65536) →
    told (joined ps ++ more) = (ps ++ (told more).1, (joined ps).length + (told more).2)
  | [], _ => by simp [joined]
  | p :: ps, h => by
    have hf : first (joined (p :: ps) ++ more) = some p := by
      simp only [joined, List.append_assoc]
      exact first_record p _ (h p (List.mem_cons_self ..))
    rw [told_some hf]
    have hd : (joined (p :: ps) ++ more).drop (8 + p.length) = joined ps ++ more := by
      simp only [joined, List.append_assoc]
      exact List.drop_left' (record_length p)
    rw [hd, told_joined more ps (fun q hq => h q (List.mem_cons_of_mem _ hq))]
    simp only [joined, List.length_append, record_length, List.cons_append, Nat.add_assoc]

/-- A part of a record, from its beginning, is no record. -/
theorem first_part (p : List UInt8) (hp : p.length ≤ 65536) (n : Nat) (hn : n < 8 + p.length) : first ((record p).take n) = none := by
  unfold first
  have hl : ((record p).take n).length = n := by rw [List.length_take, record_length]; omega
  by_cases h8 : n < 8
  · rw [if_pos (by omega)]
  · rw [if_neg (by omega)]
    have e : (record p).take n = be p.length ++ ((le (crc (be p.length ++ p)) ++ p).take (n - 4)) := by
      unfold record
      rw [List.append_assoc, List.take_append, be_length, List.take_of_length_le (by rw [be_length]; omega)]
    have hnum : num ((record p).take n) = p.length := by
      rw [e]
      exact num_be _ _ (by omega)
    rw [hnum, if_pos (by omega)]

theorem first_nil : first [] = none := rfl

/-- Records that are cut off anywhere: just those are told that are all there. -/
theorem told_cut : ∀ (ps : List (List UInt8)), (∀ p ∈ ps, p.length ≤ 65536) → ∀ cut : Nat, cut ≤ (joined ps).length →
    ∃ n : Nat, n ≤ ps.length ∧ told ((joined ps).take cut) = (ps.take n, (joined (ps.take n)).length) ∧ (joined (ps.take n)).length ≤ cut ∧ (n < ps.length → cut < (joined (ps.take (n + 1))).length)
  | [], _, cut, _ => ⟨0, Nat.le_refl _, by rw [show joined [] = [] from rfl, List.take_nil, told_none first_nil]; rfl, Nat.zero_le _, fun h => absurd h (by simp)⟩
  | p :: ps, h, cut, hc => by
    have hp := h p (List.mem_cons_self ..)
    by_cases hlt : cut < 8 + p.length
    · refine ⟨0, Nat.zero_le _, ?_, Nat.zero_le _, fun _ => ?_⟩
      · have e : (joined (p :: ps)).take cut = (record p).take cut := by
          simp only [joined]
          rw [List.take_append_of_le_length (by rw [record_length]; omega)]
        rw [e, told_none (first_part p hp cut hlt)]
        rfl
      · simp only [Nat.zero_add, List.take_succ_cons, List.take_zero, joined, List.append_nil, record_length]
        exact hlt
    · simp only [joined, List.length_append, record_length] at hc
      obtain ⟨n, h1, h2, h3, h4⟩ := told_cut ps (fun q hq => h q (List.mem_cons_of_mem _ hq)) (cut - (8 + p.length)) (by omega)
      refine ⟨n + 1, by simp only [List.length_cons]; omega, ?_, ?_, fun hn => ?_⟩
      · have e : (joined (p :: ps)).take cut = record p ++ (joined ps).take (cut - (8 + p.length)) := by
          simp only [joined]
          rw [List.take_append, record_length, List.take_of_length_le (by rw [record_length]; omega)]
        have hf : first ((joined (p :: ps)).take cut) = some p := by
          rw [e]
          exact first_record p _ hp
        rw [told_some hf, e, List.drop_left' (record_length p), h2]
        simp only [List.take_succ_cons, joined, List.length_append, record_length]
      · simp only [List.take_succ_cons, joined, List.length_append, record_length]
        omega
      · simp only [List.length_cons] at hn
        have := h4 (by omega)
        simp only [List.take_succ_cons, joined, List.length_append, record_length]
        omega

end Go.Proofs.Ytcpokaglofopbaa.Crc
