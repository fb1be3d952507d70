/- Bit operations on int and byte, said by sums, products and remainders. No statement of the seat is proved here. -/
import Derived.Laws.BitsAllLaws
import Derived.Laws.BitsLemmas
import Derived.IntWalk
namespace Go.Proofs.YtoiilhbjlfdfpaaDoor.Bit
set_option linter.unusedVariables false
open Go

theorem i64n (a : Nat) (ha : a < 9223372036854775808) : (BitVec.ofInt 64 (a : Int)).toNat = a := by
  rw [BitVec.ofInt_natCast, BitVec.toNat_ofNat]; exact Nat.mod_eq_of_lt (by omega)
theorem i64_and (a b : Nat) (ha : a < 9223372036854775808) (hb : b < 9223372036854775808) : bits .and .i64 (a : Int) (b : Int) = ((a &&& b : Nat) : Int) := by
  have hx : a &&& b < 2 ^ 63 := Nat.and_lt_two_pow _ (by omega)
  show IntKind.i64.wrap ((BitVec.ofInt 64 (a : Int) &&& BitVec.ofInt 64 (b : Int)).toNat : Int) = _
  rw [BitVec.toNat_and, i64n a ha, i64n b hb, IntKind.wrap_i64]
  omega
theorem i64_or (a b : Nat) (ha : a < 9223372036854775808) (hb : b < 9223372036854775808) : bits .or .i64 (a : Int) (b : Int) = ((a ||| b : Nat) : Int) := by
  have hx : a ||| b < 2 ^ 63 := Nat.or_lt_two_pow (by omega) (by omega)
  show IntKind.i64.wrap ((BitVec.ofInt 64 (a : Int) ||| BitVec.ofInt 64 (b : Int)).toNat : Int) = _
  rw [BitVec.toNat_or, i64n a ha, i64n b hb, IntKind.wrap_i64]
  omega
/-- x & (2^k - 1) on int. -/
theorem mask (k : Nat) (x m r : Int) (h0 : 0 ≤ x) (h1 : x < 9223372036854775808) (hk : k < 63) (hm : m = 2 ^ k - 1) (hr : r = 2 ^ k) : bits .and .i64 x m = x % r := by
  obtain ⟨n, rfl⟩ := Int.eq_ofNat_of_zero_le h0
  have hp : 0 < 2 ^ k := Nat.pow_pos (by omega)
  have hlt : 2 ^ k < 2 ^ 63 := Nat.pow_lt_pow_right (by omega) hk
  have e : m = ((2 ^ k - 1 : Nat) : Int) := by rw [hm, Int.ofNat_sub hp]; simp
  have e2 : r = ((2 ^ k : Nat) : Int) := by rw [hr]; simp
  rw [e, i64_and n _ (by omega) (by omega), Nat.and_two_pow_sub_one_eq_mod, e2]
  simp
/-- x & (2^k - 1) on byte. -/
theorem mask8 (k : Nat) (x m r : Int) (h0 : 0 ≤ x) (h1 : x < 256) (hk : k < 8) (hm : m = 2 ^ k - 1) (hr : r = 2 ^ k) : bits .and .u8 x m = x % r := by
  obtain ⟨n, rfl⟩ := Int.eq_ofNat_of_zero_le h0
  have hp : 0 < 2 ^ k := Nat.pow_pos (by omega)
  have hlt : 2 ^ k < 2 ^ 8 := Nat.pow_lt_pow_right (by omega) hk
  have e : m = ((2 ^ k - 1 : Nat) : Int) := by rw [hm, Int.ofNat_sub hp]; simp
  have e2 : r = ((2 ^ k : Nat) : Int) := by rw [hr]; simp
  rw [e, u8_and_nat n _ (by omega) (by omega), Nat.and_two_pow_sub_one_eq_mod, e2]
  simp
/-- a*2^k | b on int, b below 2^k. -/
theorem join (k : Nat) (x y r : Int) (hr : r = 2 ^ k) (h0 : 0 ≤ x) (h1 : x < 9223372036854775808) (hx : x % r = 0) (hy0 : 0 ≤ y) (hy : y < r) (hk : k < 63) : bits .or .i64 x y = x + y := by
  obtain ⟨n, rfl⟩ := Int.eq_ofNat_of_zero_le h0
  obtain ⟨p, rfl⟩ := Int.eq_ofNat_of_zero_le hy0
  have hlt : 2 ^ k < 2 ^ 63 := Nat.pow_lt_pow_right (by omega) hk
  have e2 : r = ((2 ^ k : Nat) : Int) := by rw [hr]; simp
  rw [e2] at hx hy
  rw [i64_or n p (by omega) (by omega), nat_join k n p (by omega) (by omega)]
  simp
theorem join8 (k : Nat) (x y r : Int) (hr : r = 2 ^ k) (h0 : 0 ≤ x) (h1 : x < 256) (hx : x % r = 0) (hy0 : 0 ≤ y) (hy : y < r) (hk : k ≤ 8) : bits .or .u8 x y = x + y := by
  obtain ⟨n, rfl⟩ := Int.eq_ofNat_of_zero_le h0
  obtain ⟨p, rfl⟩ := Int.eq_ofNat_of_zero_le hy0
  have hlt : 2 ^ k ≤ 2 ^ 8 := Nat.pow_le_pow_right (by omega) hk
  have e2 : r = ((2 ^ k : Nat) : Int) := by rw [hr]; simp
  rw [e2] at hx hy
  rw [u8_or_nat n p (by omega) (by omega), nat_join k n p (by omega) (by omega)]
  simp
/-- A number from 0 to 255 is a byte's. -/
theorem toNat_u8 (n : Int) (h0 : 0 ≤ n) (h1 : n < 256) : ((UInt8.ofNat n.toNat).toNat : Int) = n := by
  rw [UInt8.toNat_ofNat']
  omega
end Go.Proofs.YtoiilhbjlfdfpaaDoor.Bit
