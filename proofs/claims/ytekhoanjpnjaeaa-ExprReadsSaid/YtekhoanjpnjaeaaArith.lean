/- Plain facts on 64-bit arithmetic (no program in sight). -/
import Derived.RowKit
namespace Go.Proofs.Ytekhoanjpnjaeaa
open Go.RowKit
theorem u64w (n : Int) : IntKind.u64.wrap n = n % 18446744073709551616 := by
  simp [IntKind.wrap, IntKind.bits, IntKind.signed]
theorem u8w (n : Int) : IntKind.u8.wrap n = n % 256 := by
  simp [IntKind.wrap, IntKind.bits, IntKind.signed]
theorem w64_congr {a b : Int} (h : a % 18446744073709551616 = b % 18446744073709551616) : wrap64 a = wrap64 b := by
  unfold wrap64; omega
theorem w64_in {a : Int} (h0 : -9223372036854775808 ≤ a) (h1 : a ≤ 9223372036854775807) : wrap64 a = a := by
  unfold wrap64; omega
theorem w64_range (a : Int) : -9223372036854775808 ≤ wrap64 a ∧ wrap64 a ≤ 9223372036854775807 := by
  unfold wrap64; omega
theorem w64_u64 (n : Int) : wrap64 (IntKind.u64.wrap n) = wrap64 n := by
  rw [u64w]; exact w64_congr (by omega)
theorem w64_neg (a : Int) : wrap64 (IntKind.u64.wrap (-(IntKind.u64.wrap a))) = wrap64 (-a) := by
  rw [w64_u64, u64w]; exact w64_congr (by omega)
theorem w64_add (a b : Int) : wrap64 (IntKind.u64.wrap (IntKind.u64.wrap a + IntKind.u64.wrap b)) = wrap64 (a + b) := by
  rw [w64_u64, u64w, u64w]; exact w64_congr (by omega)
theorem w64_sub (a b : Int) : wrap64 (IntKind.u64.wrap (IntKind.u64.wrap a - IntKind.u64.wrap b)) = wrap64 (a - b) := by
  rw [w64_u64, u64w, u64w]; exact w64_congr (by omega)
theorem w64_mul (a b : Int) : wrap64 (IntKind.u64.wrap (IntKind.u64.wrap a * IntKind.u64.wrap b)) = wrap64 (a * b) := by
  rw [w64_u64, u64w, u64w]; exact w64_congr (Int.mul_emod a b _).symm
theorem tdiv_cases (a b : Int) : a.tdiv b = if (decide (a < 0) == decide (b < 0)) then ((a.natAbs : Int) / (b.natAbs : Int)) else -((a.natAbs : Int) / (b.natAbs : Int)) := by
  rcases Int.natAbs_eq a with h | h <;> rcases Int.natAbs_eq b with h' | h'
  · generalize a.natAbs = x at *; generalize b.natAbs = y at *; subst h h'
    have e1 : decide ((x : Int) < 0) = false := by simp
    have e2 : decide ((y : Int) < 0) = false := by simp
    rw [e1, e2]; simp
  · generalize a.natAbs = x at *; generalize b.natAbs = y at *; subst h h'
    have e1 : decide ((x : Int) < 0) = false := by simp
    rw [e1]
    by_cases hy : y = 0
    · subst hy; simp
    · have e2 : decide (-(y : Int) < 0) = true := by simp; omega
      rw [e2]; simp [Int.tdiv_neg]
  · generalize a.natAbs = x at *; generalize b.natAbs = y at *; subst h h'
    have e2 : decide ((y : Int) < 0) = false := by simp
    rw [e2]
    by_cases hx : x = 0
    · subst hx; simp
    · have e1 : decide (-(x : Int) < 0) = true := by simp; omega
      rw [e1]; simp [Int.neg_tdiv]
  · generalize a.natAbs = x at *; generalize b.natAbs = y at *; subst h h'
    by_cases hx : x = 0
    · subst hx; simp
    · by_cases hy : y = 0
      · subst hy; simp
      · have e1 : decide (-(x : Int) < 0) = true := by simp; omega
        have e2 : decide (-(y : Int) < 0) = true := by simp; omega
        rw [e1, e2]; simp [Int.neg_tdiv, Int.tdiv_neg]
theorem tmod_abs (a b : Int) (hb : b ≠ 0) : (a.tmod b).natAbs < b.natAbs := by
  rw [Int.natAbs_tmod]; exact Nat.mod_lt _ (by omega)
theorem tdiv_range (a b : Int) (h0 : -9223372036854775808 ≤ a) (h1 : a ≤ 9223372036854775807) (hb : b ≠ -1) : -9223372036854775808 ≤ a.tdiv b ∧ a.tdiv b ≤ 9223372036854775807 := by
  have h := Int.natAbs_tdiv a b
  by_cases hb0 : b.natAbs = 0
  · have : b = 0 := by omega
    subst this; simp
  · by_cases hb1 : b.natAbs = 1
    · have : b = 1 := by omega
      subst this; simp; omega
    · have h2 : a.natAbs.div b.natAbs ≤ a.natAbs / 2 := by
        show a.natAbs / b.natAbs ≤ _
        exact Nat.div_le_div_left (by omega) (by omega)
      rw [← h] at h2
      omega
end Go.Proofs.Ytekhoanjpnjaeaa
