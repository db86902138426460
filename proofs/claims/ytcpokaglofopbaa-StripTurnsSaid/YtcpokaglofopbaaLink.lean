/- What the printed functions of layer 3 come to: the plain theory's sum, records and scan. -/
import Derived.Test.YtcpokaglofopbaaPAllx4
import Derived.Test.YtcpokaglofopbaaCrc
namespace Go.Proofs.Ytcpokaglofopbaa.Link
open Go.RowKit Go.Proofs.Ytcpokaglofopbaa.PAll Go.Proofs.YtcpokaglofopbaaW.PrintWords Go.Proofs.YtcpokaglofopbaaW.PrintLast Go.Proofs.Ytcpokaglofopbaa.Crc

/-! ### Bytes -/
theorem toList_loop (s : ByteArray) : ∀ (n i : Nat) (r : List UInt8), s.size - i = n → ByteArray.toList.loop s i r = r.reverse ++ s.data.toList.drop i
  | 0, i, r, h => by
    unfold ByteArray.toList.loop
    rw [if_neg (by omega), List.drop_of_length_le (by rw [data_length]; omega), List.append_nil]
  | n + 1, i, r, h => by
    unfold ByteArray.toList.loop
    have hi : i < s.size := by omega
    have hl : i < s.data.toList.length := by rw [data_length]; exact hi
    rw [if_pos hi, toList_loop s n (i + 1) _ (by omega), List.drop_eq_getElem_cons hl, List.reverse_cons, List.append_assoc]
    congr 1
    have e : s.get! i = s.data.toList[i] := by
      show s.data.get!Internal i = _
      simp [Array.get!Internal, hi]
    rw [e]
    rfl
theorem toList_data (s : ByteArray) : s.toList = s.data.toList := by
  unfold ByteArray.toList
  rw [toList_loop s s.size 0 [] (by omega)]
  simp
/-- A text of bytes. -/
def mk (l : List UInt8) : ByteArray := ⟨l.toArray⟩
theorem mk_data (l : List UInt8) : (mk l).data.toList = l := rfl
theorem mk_toList (l : List UInt8) : (mk l).toList = l := by rw [toList_data]; rfl
theorem data_mk (s : ByteArray) : mk s.data.toList = s := by
  unfold mk
  rfl
theorem bytes_ext {a b : ByteArray} (h : a.data.toList = b.data.toList) : a = b := by rw [← data_mk a, ← data_mk b, h]
theorem mk_inj {a b : List UInt8} (h : mk a = mk b) : a = b := by rw [← mk_data a, ← mk_data b, h]
theorem mk_size (l : List UInt8) : (mk l).size = l.length := rfl
theorem mk_append (a b : List UInt8) : mk a ++ mk b = mk (a ++ b) := bytes_ext (by rw [ByteArray.toList_data_append]; rfl)
theorem extract_data (s : ByteArray) (i j : Nat) : (s.extract i j).data.toList = (s.data.toList.take j).drop i := by
  rw [ByteArray.data_extract, Array.toList_extract, List.extract_eq_drop_take']
theorem bt_get (s : ByteArray) (i : Nat) (h : i < s.data.toList.length) : bt s (i : Int) = ((s.data.toList[i]).toNat : Int) := by
  have h' : i < s.size := by rw [← data_length]; exact h
  unfold bt
  rw [dif_pos (by simpa using h')]
  rfl

/-! ### Numbers -/
def N (x : BitVec 32) : Int := (x.toNat : Int)
theorem ofInt_N (x : BitVec 32) : BitVec.ofInt 32 (N x) = x := by
  unfold N
  rw [BitVec.ofInt_natCast, BitVec.ofNat_toNat, BitVec.setWidth_eq]
theorem wrap_N (x : BitVec 32) : IntKind.u32.wrap (x.toNat : Int) = N x := by
  rw [IntKind.wrap_u32]
  have := x.isLt
  unfold N
  omega
theorem xor_N (x y : BitVec 32) : Go.bits .xor .u32 (N x) (N y) = N (x ^^^ y) := by
  show IntKind.u32.wrap ((BitVec.ofInt 32 (N x) ^^^ BitVec.ofInt 32 (N y)).toNat : Int) = _
  rw [ofInt_N, ofInt_N]
  exact wrap_N _
theorem and_N (x y : BitVec 32) : Go.bits .and .u32 (N x) (N y) = N (x &&& y) := by
  show IntKind.u32.wrap ((BitVec.ofInt 32 (N x) &&& BitVec.ofInt 32 (N y)).toNat : Int) = _
  rw [ofInt_N, ofInt_N]
  exact wrap_N _
theorem byte_N (b : UInt8) : ((b.toNat : Int)) % 4294967296 = N (BitVec.ofNat 32 b.toNat) := by
  have := b.toNat_lt
  unfold N
  rw [BitVec.toNat_ofNat]
  omega
theorem half_N (x : BitVec 32) : N x / (2 : Int) = N (x >>> 1) := by
  unfold N
  rw [BitVec.toNat_ushiftRight, Nat.shiftRight_eq_div_pow]
  omega
theorem low_N (x : BitVec 32) : x.getLsbD 0 = decide (N x % 2 = 1) := by
  unfold N
  rw [BitVec.getLsbD, Nat.testBit_zero]
  apply decide_eq_decide.mpr
  omega
theorem one_N : (1 : Int) = N 1#32 := rfl
theorem poly_N : (3988292384 : Int) = N poly := rfl
theorem all_N : (4294967295 : Int) = N (BitVec.allOnes 32) := rfl
/-- One step of the program's. -/
theorem step_go (x : BitVec 32) : Go.bits .xor .u32 (N x / 2) (Go.bits .and .u32 3988292384 ((-(Go.bits .and .u32 (N x) 1)) % 4294967296)) = N (stp x) := by
  rw [one_N, and_N]
  have hlow : x &&& 1#32 = if x.getLsbD 0 = true then 1#32 else 0#32 := by
    apply BitVec.eq_of_getLsbD_eq
    intro i hi
    rw [BitVec.getLsbD_and]
    cases i with
    | zero => cases h : x.getLsbD 0 <;> simp
    | succ i => cases h : x.getLsbD 0 <;> simp
  rw [hlow]
  unfold stp
  split
  · have e : (-N 1#32) % 4294967296 = N (BitVec.allOnes 32) := by decide
    rw [e, poly_N, and_N, half_N, xor_N, BitVec.and_allOnes]
  · have e : (-N 0#32) % 4294967296 = N 0#32 := by decide
    rw [e, poly_N, and_N, half_N, xor_N, BitVec.and_zero, BitVec.xor_zero]
/-- One step of the reference's. -/
theorem step_ref (x : BitVec 32) : (if (Int.tmod (N x) 2) = 1 then Go.bits .xor .u32 ((Int.tdiv (N x) 2) % 4294967296) 3988292384 else (Int.tdiv (N x) 2) % 4294967296) = N (stp x) := by
  have h0 : 0 ≤ N x := Int.natCast_nonneg _
  have h1 : N x < 4294967296 := by have := x.isLt; unfold N; omega
  rw [Int.tmod_eq_emod_of_nonneg h0, Int.tdiv_eq_ediv_of_nonneg h0]
  have e : (N x / (2 : Int)) % (4294967296 : Int) = N (x >>> 1) := by rw [← half_N]; omega
  rw [e]
  unfold stp
  rw [low_N]
  by_cases h : N x % 2 = 1
  · rw [if_pos h, if_pos (by simpa using h), poly_N, xor_N]
  · rw [if_neg h, if_neg (by simpa using h)]

/-! ### The sum -/
theorem wrap_in {n : Int} (h0 : 0 ≤ n) (h1 : n ≤ 9223372036854775807) : wrap64 n = n := by unfold wrap64; omega
theorem sum_l1 (s : ByteArray) (len i : Int) (r : Int) : ∀ (n : Nat) (x : BitVec 32), n ≤ 8 → Ev (fun k => strip_Sum.l0 k s (N (steps n x)) len (wrap64 (i + 1))) r →
    Ev (fun k => strip_Sum.l1 k s (N x) len i (8 - (n : Int))) r
  | 0, x, _, h => Ev.step (fun k => by simp only [strip_Sum.l1]; rw [if_neg (by omega)]; rfl) h
  | n + 1, x, hn, h => by
    refine Ev.step (f := fun k => strip_Sum.l1 k s (N (stp x)) len i (8 - (n : Int))) (fun k => ?_) (sum_l1 s len i r n (stp x) (by omega) h)
    simp only [strip_Sum.l1]
    rw [if_pos (by omega), step_go, wrap_in (by omega) (by omega)]
    congr 1
    omega
theorem sum_l0 (s : ByteArray) (hs : s.size ≤ 9223372036854775806) : ∀ (m i : Nat) (x : BitVec 32), i + m = s.size →
    Ev (fun k => strip_Sum.l0 k s (N x) (s.size : Int) (i : Int)) (N (~~~ (eats x (s.data.toList.drop i))))
  | 0, i, x, h => by
    refine Ev.step (f := fun _ => some (N (~~~ (eats x (s.data.toList.drop i))))) (fun k => ?_) (Ev.now _)
    simp only [strip_Sum.l0]
    rw [if_neg (by omega), List.drop_of_length_le (by rw [data_length]; omega), all_N, xor_N]
    rw [BitVec.allOnes_xor]
    rfl
  | m + 1, i, x, h => by
    have hl : i < s.data.toList.length := by rw [data_length]; omega
    have hb := bt_get s i hl
    refine Ev.step (f := fun k => strip_Sum.l1 k s (N (x ^^^ BitVec.ofNat 32 (s.data.toList[i]).toNat)) (s.size : Int) (i : Int) 0) (fun k => ?_) ?_
    · simp only [strip_Sum.l0]
      rw [if_pos (by omega), if_pos (by omega), if_pos (by omega), hb, byte_N, xor_N]
    · refine sum_l1 s _ _ _ 8 _ (Nat.le_refl _) ?_
      rw [wrap_in (by omega) (by omega)]
      have ih := sum_l0 s hs m (i + 1) (eat x (s.data.toList[i])) (by omega)
      rw [List.drop_eq_getElem_cons hl]
      exact ih
theorem sum_go (s : ByteArray) (hs : s.size ≤ 9223372036854775806) : Ev (fun k => strip_Sum.f k s) (N (crc s.data.toList)) := sum_l0 s hs s.size 0 (BitVec.allOnes 32) (by omega)

theorem rsum_l1 (s : ByteArray) (i : Int) (r : Int) : ∀ (n : Nat) (x : BitVec 32), n ≤ 8 → Ev (fun k => lintelref03_Sum.l0 k s (N (steps n x)) (wrap64 (i + 1))) r →
    Ev (fun k => lintelref03_Sum.l1 k s (N x) i (8 - (n : Int))) r
  | 0, x, _, h => Ev.step (fun k => by simp only [lintelref03_Sum.l1]; rw [if_neg (by omega)]; rfl) h
  | n + 1, x, hn, h => by
    refine Ev.step (f := fun k => lintelref03_Sum.l1 k s (N (stp x)) i (8 - (n : Int))) (fun k => ?_) (rsum_l1 s i r n (stp x) (by omega) h)
    simp only [lintelref03_Sum.l1]
    have e := step_ref x
    rw [if_pos (by omega), wrap_in (by omega) (by omega), ← e]
    have e2 : (8 : Int) - ((n + 1 : Nat) : Int) + 1 = 8 - (n : Int) := by omega
    rw [e2]
    split <;> rfl
theorem rsum_l0 (s : ByteArray) (hs : s.size ≤ 9223372036854775806) : ∀ (m i : Nat) (x : BitVec 32), i + m = s.size →
    Ev (fun k => lintelref03_Sum.l0 k s (N x) (i : Int)) (N (~~~ (eats x (s.data.toList.drop i))))
  | 0, i, x, h => by
    refine Ev.step (f := fun _ => some (N (~~~ (eats x (s.data.toList.drop i))))) (fun k => ?_) (Ev.now _)
    simp only [lintelref03_Sum.l0]
    rw [if_neg (by omega), List.drop_of_length_le (by rw [data_length]; omega), all_N, xor_N]
    rw [BitVec.xor_allOnes]
    rfl
  | m + 1, i, x, h => by
    have hl : i < s.data.toList.length := by rw [data_length]; omega
    have hb := bt_get s i hl
    refine Ev.step (f := fun k => lintelref03_Sum.l1 k s (N (x ^^^ BitVec.ofNat 32 (s.data.toList[i]).toNat)) (i : Int) 0) (fun k => ?_) ?_
    · simp only [lintelref03_Sum.l0]
      rw [if_pos (by omega), if_pos (by omega), hb, byte_N, xor_N]
    · refine rsum_l1 s _ _ 8 _ (Nat.le_refl _) ?_
      rw [wrap_in (by omega) (by omega)]
      have ih := rsum_l0 s hs m (i + 1) (eat x (s.data.toList[i])) (by omega)
      rw [List.drop_eq_getElem_cons hl]
      exact ih
theorem sum_ref (s : ByteArray) (hs : s.size ≤ 9223372036854775806) : Ev (fun k => lintelref03_Sum.f k s) (N (crc s.data.toList)) := rsum_l0 s hs s.size 0 (BitVec.allOnes 32) (by omega)

end Go.Proofs.Ytcpokaglofopbaa.Link
