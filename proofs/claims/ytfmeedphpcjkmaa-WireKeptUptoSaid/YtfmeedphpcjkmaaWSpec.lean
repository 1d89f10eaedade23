/- Layer 1 on lists and numbers alone. -/
import Derived.IntWalk
set_option linter.unusedVariables false
namespace Go.Proofs.Ytfmeedphpcjkmaa.Ag

/-- A varint's digits from the i-th on: the number so far 'n'; the number, how many digits in all, the error. -/
def gvL : List UInt8 → Nat → Nat → Nat × Nat × Nat
  | [], _, _ => (0, 0, 3)
  | b :: r, i, n =>
    if i = 9 ∧ 1 < b.toNat then (0, 0, 4)
    else if b.toNat < 128 then (n + b.toNat % 128 * 128 ^ i, i + 1, 0)
    else gvL r (i + 1) (n + b.toNat % 128 * 128 ^ i)

/-- A varint's bytes. -/
def pvL (n : Nat) : List UInt8 := if h : n < 128 then [UInt8.ofNat n] else UInt8.ofNat (n % 128 + 128) :: pvL (n / 128)
termination_by n
decreasing_by omega

theorem pvL_small {n : Nat} (h : n < 128) : pvL n = [UInt8.ofNat n] := by rw [pvL]; simp [h]
theorem pvL_big {n : Nat} (h : 128 ≤ n) : pvL n = UInt8.ofNat (n % 128 + 128) :: pvL (n / 128) := by
  conv => lhs; rw [pvL]
  rw [dif_neg (by omega)]

/-- What GetVarint answers: the number, the place behind, the error. -/
def gvAt (bs : List UInt8) (at_ : Int) : Nat × Nat × Nat :=
  if 0 ≤ at_ ∧ at_ ≤ bs.length then
    match gvL (bs.drop at_.toNat) 0 0 with
    | (n, k, 0) => (n, at_.toNat + k, 0)
    | (_, _, e) => (0, 0, e)
  else (0, 0, 18)

theorem or_add {n c i : Nat} (hn : n < 128 ^ i) : n ||| (c * 128 ^ i) = n + c * 128 ^ i := by
  have h2 : (128 : Nat) ^ i = 2 ^ (7 * i) := by rw [Nat.pow_mul]
  rw [h2] at hn ⊢
  have := Nat.shiftLeft_add_eq_or_of_lt hn c
  rw [Nat.shiftLeft_eq] at this
  rw [Nat.or_comm, ← this, Nat.add_comm]

theorem pow_small {i : Nat} (h : i ≤ 9) : 128 ^ i ≤ 9223372036854775808 := by
  calc 128 ^ i ≤ 128 ^ 9 := Nat.pow_le_pow_right (by omega) h
    _ ≤ 9223372036854775808 := by decide

end Go.Proofs.Ytfmeedphpcjkmaa.Ag
