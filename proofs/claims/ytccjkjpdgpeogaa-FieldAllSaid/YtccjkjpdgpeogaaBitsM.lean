/- Bits of signed words that are not below nought. -/
import Derived.Test.YtccjkjpdgpeogaaSxN
namespace Go.Sx
open Go
set_option linter.unusedSimpArgs false

theorem bxor_i64 {a b : Nat} (ha : a < 9223372036854775808) (hb : b < 9223372036854775808) : bxor .i64 (a : Int) (b : Int) = ((a ^^^ b : Nat) : Int) := by
  have hx : a ^^^ b < 2 ^ 63 := Nat.xor_lt_two_pow (by omega) (by omega)
  show IntKind.i64.wrap ((BitVec.ofInt 64 (a : Int) ^^^ BitVec.ofInt 64 (b : Int)).toNat : Int) = _
  rw [BitVec.toNat_xor, ofInt_u64 a (by omega), ofInt_u64 b (by omega), IntKind.wrap_i64]
  omega
theorem bor_i64 {a b : Nat} (ha : a < 9223372036854775808) (hb : b < 9223372036854775808) : bor .i64 (a : Int) (b : Int) = ((a ||| b : Nat) : Int) := by
  have hx : a ||| b < 2 ^ 63 := Nat.or_lt_two_pow (by omega) (by omega)
  show IntKind.i64.wrap ((BitVec.ofInt 64 (a : Int) ||| BitVec.ofInt 64 (b : Int)).toNat : Int) = _
  rw [BitVec.toNat_or, ofInt_u64 a (by omega), ofInt_u64 b (by omega), IntKind.wrap_i64]
  omega
theorem band_i64 {a b : Nat} (ha : a < 9223372036854775808) (hb : b < 9223372036854775808) : band .i64 (a : Int) (b : Int) = ((a &&& b : Nat) : Int) := by
  have hx : a &&& b < 2 ^ 63 := Nat.and_lt_two_pow _ (by omega)
  show IntKind.i64.wrap ((BitVec.ofInt 64 (a : Int) &&& BitVec.ofInt 64 (b : Int)).toNat : Int) = _
  rw [BitVec.toNat_and, ofInt_u64 a (by omega), ofInt_u64 b (by omega), IntKind.wrap_i64]
  omega
theorem band1_i64 {m : Nat} (h : m < 9223372036854775808) : band .i64 (m : Int) 1 = ((m % 2 : Nat) : Int) := by
  rw [show (1 : Int) = ((1 : Nat) : Int) from rfl, ← Nat.and_one_is_mod]
  exact band_i64 h (by decide)
theorem shr_i64 {a n : Nat} (hn : n ≤ 64) : shr .i64 (a : Int) (n : Int) = ((a / 2 ^ n : Nat) : Int) := by
  unfold shr
  have : min (n : Int).toNat IntKind.i64.bits = n := by show min ((n : Int).toNat) 64 = n; omega
  rw [this]
  have h : (2 : Int) ^ n = ((2 ^ n : Nat) : Int) := by simp
  rw [h, Int.fdiv_eq_ediv_of_nonneg _ (Int.natCast_nonneg _)]
  simp
theorem shl_i64 {a n : Nat} (hn : n ≤ 64) (h : a * 2 ^ n < 9223372036854775808) : shl .i64 (a : Int) (n : Int) = ((a * 2 ^ n : Nat) : Int) := by
  unfold shl
  have : min (n : Int).toNat IntKind.i64.bits = n := by show min ((n : Int).toNat) 64 = n; omega
  rw [this]
  have e : (a : Int) * 2 ^ n = ((a * 2 ^ n : Nat) : Int) := by simp
  rw [e, IntKind.wrap_i64]
  omega
end Go.Sx
