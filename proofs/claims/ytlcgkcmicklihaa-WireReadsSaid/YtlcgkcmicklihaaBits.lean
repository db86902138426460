/- The bits that a number's reading and writing reckon with. -/
import Derived.Laws.BitsLemmas
namespace Go.Proofs.Ytlcgkcmicklihaa.Wire
set_option linter.unusedVariables false
open Go
theorem wraps_u64 (n : Int) (h0 : 0 ≤ n) (h1 : n < 2 ^ 64) : IntKind.u64.wrap n = n := by
  have : IntKind.u64.wrap n = n % 18446744073709551616 := by simp [IntKind.wrap, IntKind.bits, IntKind.signed]
  rw [this]
  omega
theorem and127 (x : Int) (h0 : 0 ≤ x) (h1 : x < 256) : bits .and .u8 x 127 = x % 128 := bits_mask .u8 8 (by decide) wraps_u8 7 (by decide) x h0 h1
theorem and1 (x : Int) (h0 : 0 ≤ x) (h1 : x < 18446744073709551616) : bits .and .u64 x 1 = x % 2 := bits_mask .u64 64 (by decide) wraps_u64 1 (by decide) x h0 h1
theorem or_add (z hi : Int) (i : Nat) (hz0 : 0 ≤ z) (hz : z < 2 ^ i) (hz1 : z < 2 ^ 64) (hh0 : 0 ≤ hi) (hm : hi % 2 ^ i = 0) (hh : hi < 2 ^ 64) : bits .or .u64 z hi = z + hi := by
  obtain ⟨a, rfl⟩ := Int.eq_ofNat_of_zero_le hz0
  obtain ⟨b, rfl⟩ := Int.eq_ofNat_of_zero_le hh0
  have ha : a < 2 ^ 64 := by exact_mod_cast hz1
  have hb : b < 2 ^ 64 := by exact_mod_cast hh
  have h := bits_join .u64 64 (by decide) wraps_u64 i (b : Int) (a : Int) hh0 hm hh hz0 hz hz1
  rw [(bits_nat .u64 64 (by decide) wraps_u64 b a hb ha).2] at h
  rw [(bits_nat .u64 64 (by decide) wraps_u64 a b ha hb).2, Nat.or_comm, h, Int.add_comm]
theorem xor0 (a : Int) (h0 : 0 ≤ a) (h1 : a < 9223372036854775808) : bits .xor .i64 a 0 = a := by
  obtain ⟨n, rfl⟩ := Int.eq_ofNat_of_zero_le h0
  have e : (BitVec.ofInt 64 (n : Int) ^^^ BitVec.ofInt 64 0).toNat = n := by
    have : BitVec.ofInt 64 0 = 0#64 := rfl
    rw [this, BitVec.xor_zero, BitVec.ofInt_natCast, BitVec.toNat_ofNat]
    omega
  have h : bits .xor .i64 (n : Int) 0 = IntKind.i64.wrap ((BitVec.ofInt 64 (n : Int) ^^^ BitVec.ofInt 64 0).toNat : Int) := rfl
  rw [h, e, IntKind.wrap_i64]
  omega
theorem xorm (a : Int) (h0 : 0 ≤ a) (h1 : a < 9223372036854775808) : bits .xor .i64 a (-1) = -a - 1 := by
  obtain ⟨n, rfl⟩ := Int.eq_ofNat_of_zero_le h0
  have e : (BitVec.ofInt 64 (n : Int) ^^^ BitVec.ofInt 64 (-1)).toNat = 18446744073709551615 - n := by
    have : BitVec.ofInt 64 (-1) = BitVec.allOnes 64 := rfl
    rw [this, BitVec.xor_allOnes, BitVec.toNat_not, BitVec.ofInt_natCast, BitVec.toNat_ofNat]
    omega
  have h : bits .xor .i64 (n : Int) (-1) = IntKind.i64.wrap ((BitVec.ofInt 64 (n : Int) ^^^ BitVec.ofInt 64 (-1)).toNat : Int) := rfl
  rw [h, e, IntKind.wrap_i64]
  omega
theorem hi_mod (x i : Nat) (hi : i ≤ 63) : (x * 2 ^ i % 18446744073709551616) % 2 ^ i = 0 := by
  have h : 18446744073709551616 = 2 ^ i * 2 ^ (64 - i) := by rw [← Nat.pow_add, show i + (64 - i) = 64 by omega]
  rw [h, Nat.mul_comm x, Nat.mul_mod_mul_left, Nat.mul_mod_right]
/-- A round's new number. -/
theorem round_or (z x i : Nat) (hi : i ≤ 63) (hz : z < 2 ^ i) (hx : x < 256) :
    bits .or .u64 (z : Int) (IntKind.u64.wrap (IntKind.u64.wrap (bits .and .u8 (x : Int) 127) * 2 ^ i)) = ((z + x % 128 * 2 ^ i % 18446744073709551616 : Nat) : Int) := by
  have hw : ∀ n : Int, IntKind.u64.wrap n = n % 18446744073709551616 := fun n => by simp [IntKind.wrap, IntKind.bits, IntKind.signed]
  have hp : 2 ^ i ≤ 2 ^ 63 := Nat.pow_le_pow_right (by decide) hi
  rw [and127 x (by omega) (by omega), hw, hw]
  have e1 : ((x : Int) % 128) % 18446744073709551616 = ((x % 128 : Nat) : Int) := by omega
  have e2 : (((x % 128 : Nat) : Int) * 2 ^ i) % 18446744073709551616 = ((x % 128 * 2 ^ i % 18446744073709551616 : Nat) : Int) := by
    have : (((x % 128 : Nat) : Int) * 2 ^ i) = ((x % 128 * 2 ^ i : Nat) : Int) := by push_cast; rfl
    rw [this]
    omega
  rw [e1, e2]
  have hm := hi_mod (x % 128) i hi
  have hl : x % 128 * 2 ^ i % 18446744073709551616 < 18446744073709551616 := Nat.mod_lt _ (by decide)
  generalize x % 128 * 2 ^ i % 18446744073709551616 = y at *
  rw [or_add (z : Int) (y : Int) i (by omega) (by exact_mod_cast hz) (by have : (2:Nat)^63 < 2^64 := by decide
                                                                         have h3 : z < 2 ^ 64 := by omega
                                                                         exact_mod_cast h3) (by omega) (by exact_mod_cast hm) (by exact_mod_cast hl)]
  push_cast
  rfl
end Go.Proofs.Ytlcgkcmicklihaa.Wire
