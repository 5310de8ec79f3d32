/- Reading numbers, in plain words. -/
import Derived.Test.YtekhoanjpnjaeaaTByt
namespace Go.Proofs.Ytekhoanjpnjaeaa
open Go.RowKit
/-- The number that goes on at the i-th byte, and how many bytes it has. -/
def decA : Nat → Nat → List Int → Option (Nat × Nat)
  | _, _, [] => none
  | i, acc, b :: r => if (i = 9 ∧ 1 < b) ∨ (0 < i ∧ b = 0) then none else if b < 128 then some (acc + b.toNat * 2 ^ (7 * i), i + 1) else decA (i + 1) (acc + (b.toNat % 128) * 2 ^ (7 * i)) r
def decU (l : List Int) : Option (Nat × Nat) := decA 0 0 l
def Byts (l : List Int) : Prop := ∀ b ∈ l, 0 ≤ b ∧ b ≤ 255
theorem decA_stop {i acc : Nat} {b : Int} {r : List Int} (h : (i = 9 ∧ 1 < b) ∨ (0 < i ∧ b = 0)) : decA i acc (b :: r) = none := by rw [decA, if_pos h]
theorem decA_end {i acc : Nat} {b : Int} {r : List Int} (h : ¬ ((i = 9 ∧ 1 < b) ∨ (0 < i ∧ b = 0))) (hb : b < 128) : decA i acc (b :: r) = some (acc + b.toNat * 2 ^ (7 * i), i + 1) := by rw [decA, if_neg h, if_pos hb]
theorem decA_on {i acc : Nat} {b : Int} {r : List Int} (h : ¬ ((i = 9 ∧ 1 < b) ∨ (0 < i ∧ b = 0))) (hb : ¬ b < 128) : decA i acc (b :: r) = decA (i + 1) (acc + (b.toNat % 128) * 2 ^ (7 * i)) r := by rw [decA, if_neg h, if_neg hb]
theorem pow7 (i : Nat) : 2 ^ (7 * (i + 1)) = 128 * 2 ^ (7 * i) := by rw [Nat.mul_add, Nat.pow_add]; omega
theorem decA_lt {i acc : Nat} {b : Nat} (ha : acc < 2 ^ (7 * i)) (hb : b < 128) : acc + b * 2 ^ (7 * i) < 2 ^ (7 * (i + 1)) := by
  rw [pow7]
  have := Nat.mul_le_mul_right (2 ^ (7 * i)) (show b + 1 ≤ 128 by omega)
  rw [Nat.add_mul] at this
  omega
theorem pow7_le {i : Nat} (hi : i ≤ 8) : 2 ^ (7 * (i + 1)) ≤ 9223372036854775808 := by
  have : 2 ^ (7 * (i + 1)) ≤ 2 ^ 63 := Nat.pow_le_pow_right (by omega) (by omega)
  exact this
/-- What is added fits. -/
theorem dec_fit {i acc b : Nat} (hi : i ≤ 9) (ha : acc < 2 ^ (7 * i)) (hb : b < 128) (h9 : i = 9 → b ≤ 1) : acc + b * 2 ^ (7 * i) < 18446744073709551616 := by
  by_cases e : i = 9
  · subst e
    have := h9 rfl
    have h2 : (2 : Nat) ^ (7 * 9) = 9223372036854775808 := by decide
    rw [h2] at ha ⊢
    have : b * 9223372036854775808 ≤ 1 * 9223372036854775808 := Nat.mul_le_mul_right _ this
    omega
  · have := decA_lt ha hb
    have := pow7_le (show i ≤ 8 by omega)
    omega
theorem or_add {i acc b : Nat} (ha : acc < 2 ^ (7 * i)) : acc ||| (b * 2 ^ (7 * i)) = acc + b * 2 ^ (7 * i) := by
  rw [Nat.or_comm, ← Nat.shiftLeft_eq, ← Nat.shiftLeft_add_eq_or_of_lt ha, Nat.shiftLeft_eq, Nat.add_comm]
end Go.Proofs.Ytekhoanjpnjaeaa
