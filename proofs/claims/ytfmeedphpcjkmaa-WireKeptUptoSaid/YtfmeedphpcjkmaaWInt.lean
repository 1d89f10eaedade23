/- The machine's numbers of layer 1 as numbers. -/
import Derived.Test.YtfmeedphpcjkmaaWSpec
import Derived.Test.YtfmeedphpcjkmaaAg16
-- sem
set_option linter.unusedVariables false
set_option linter.unusedSimpArgs false
namespace Go.Proofs.Ytfmeedphpcjkmaa.Ag

theorem wrap_u8 {n : Int} (h0 : 0 ≤ n) (h1 : n < 256) : IntKind.u8.wrap n = n := IntWalk.u8_in n (by omega)
theorem wrap_u64 {n : Int} (h0 : 0 ≤ n) (h1 : n < 18446744073709551616) : IntKind.u64.wrap n = n := IntWalk.u64_in n (by omega)
theorem wrap_i64 {n : Int} (h0 : -9223372036854775808 ≤ n) (h1 : n < 9223372036854775808) : IntKind.i64.wrap n = n := IntWalk.i64_in n (by omega)

theorem u64_bits : IntKind.u64.bits = 64 := rfl
theorem u8_bits : IntKind.u8.bits = 8 := rfl

theorem ofInt_nat {w : Nat} (n : Nat) (h : n < 2 ^ w) : (BitVec.ofInt w (n : Int)).toNat = n := by
  rw [BitVec.ofInt_natCast, BitVec.toNat_ofNat, Nat.mod_eq_of_lt h]

theorem and127 (b : UInt8) : bitOp .and .u8 (b.toNat : Int) 127 = ((b.toNat % 128 : Nat) : Int) := by
  have hb := b.toNat_lt
  unfold bitOp
  have h1 : (BitVec.ofInt IntKind.u8.bits (b.toNat : Int) &&& BitVec.ofInt IntKind.u8.bits 127).toNat = b.toNat % 128 := by
    rw [BitVec.toNat_and, u8_bits, ofInt_nat b.toNat (show b.toNat < 2 ^ 8 by omega), show ((127 : Int)) = ((127 : Nat) : Int) by rfl, ofInt_nat 127 (by decide)]
    exact Nat.and_two_pow_sub_one_eq_mod b.toNat 7
  simp only [h1]
  exact wrap_u8 (by omega) (by omega)

theorem bitor_nat {x y : Nat} (hx : x < 18446744073709551616) (hy : y < 18446744073709551616) : bitOp .or .u64 (x : Int) (y : Int) = ((x ||| y : Nat) : Int) := by
  unfold bitOp
  have h1 : (BitVec.ofInt IntKind.u64.bits (x : Int) ||| BitVec.ofInt IntKind.u64.bits (y : Int)).toNat = x ||| y := by
    rw [BitVec.toNat_or, u64_bits, ofInt_nat x (show x < 2 ^ 64 by omega), ofInt_nat y (show y < 2 ^ 64 by omega)]
  simp only [h1]
  have : x ||| y < 2 ^ 64 := Nat.or_lt_two_pow (by simpa using hx) (by simpa using hy)
  exact wrap_u64 (by omega) (by omega)

/-- One digit more of a varint. -/
theorem digit_or {n c i : Nat} (hi : i ≤ 9) (hn : n < 128 ^ i) (hc : c < 128) (h9 : i = 9 → c ≤ 1) :
    bitOp .or .u64 (n : Int) (IntKind.u64.wrap ((c : Int) * 2 ^ (min ((7 * (i : Int)).toNat) 64))) = ((n + c * 128 ^ i : Nat) : Int) := by
  have e1 : (7 * (i : Int)).toNat = 7 * i := by omega
  have e2 : min (7 * i) 64 = 7 * i := by omega
  have e3 : ((2 : Int) ^ (7 * i)) = ((128 ^ i : Nat) : Int) := by
    rw [Int.natCast_pow, Int.pow_mul]; rfl
  rw [e1, e2, e3]
  have hp := pow_small hi
  have hlt : c * 128 ^ i < 18446744073709551616 := by
    by_cases h : i = 9
    · subst h
      have := h9 rfl
      have e : (128 : Nat) ^ 9 = 9223372036854775808 := by decide
      rw [e]; omega
    · have h8 : 128 ^ i ≤ 128 ^ 8 := Nat.pow_le_pow_right (by omega) (by omega)
      have e : (128 : Nat) ^ 8 = 72057594037927936 := by decide
      rw [e] at h8
      have : c * 128 ^ i ≤ 127 * 72057594037927936 := Nat.mul_le_mul (by omega) h8
      omega
  rw [← Int.natCast_mul, wrap_u64 (by omega) (by omega), bitor_nat (by omega) hlt, or_add hn]

end Go.Proofs.Ytfmeedphpcjkmaa.Ag
