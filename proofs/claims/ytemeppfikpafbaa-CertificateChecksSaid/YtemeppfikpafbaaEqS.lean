/- '==' of keys, messages and degrees, as run equations. -/
import Derived.Test.YtemeppfikpafbaaDegs
namespace Go.Proofs.Ytemeppfikpafbaa
open Go.RowKit
theorem run_eqK (x y : K4) (w : World) : (binOp .eql 48 (.agg #[.int .u8 x.kind, .int .i64 x.a, .int .i64 x.b, .int .i64 x.n]) (.agg #[.int .u8 y.kind, .int .i64 y.a, .int .i64 y.b, .int .i64 y.n])).run Try.prog w = .ok (.bool (decide (x = y))) w := by
  have e : decide (x = y) = (decide (x.kind = y.kind) && (decide (x.a = y.a) && (decide (x.b = y.b) && decide (x.n = y.n)))) := by
    rw [Bool.eq_iff_iff]
    obtain ⟨a, b, c, d⟩ := x
    obtain ⟨a', b', c', d'⟩ := y
    simp
  rw [e]
  go_simp
  by_cases h1 : x.kind = y.kind <;> by_cases h2 : x.a = y.a <;> by_cases h3 : x.b = y.b <;> by_cases h4 : x.n = y.n <;> simp [h1, h2, h3, h4]
theorem run_eqM (x y : M3) (w : World) : (binOp .eql 54 (.agg #[.int .i64 x.f, .int .i64 x.t, .int .i64 x.n]) (.agg #[.int .i64 y.f, .int .i64 y.t, .int .i64 y.n])).run Try.prog w = .ok (.bool (decide (x = y))) w := by
  have e : decide (x = y) = (decide (x.f = y.f) && (decide (x.t = y.t) && decide (x.n = y.n))) := by
    rw [Bool.eq_iff_iff]
    obtain ⟨a, b, c⟩ := x
    obtain ⟨a', b', c'⟩ := y
    simp
  rw [e]
  go_simp
  by_cases h1 : x.f = y.f <;> by_cases h2 : x.t = y.t <;> by_cases h3 : x.n = y.n <;> simp [h1, h2, h3]
theorem run_eqR (x y : Int × Int) (w : World) : (binOp .eql 32 (.agg #[.int .i64 x.1, .int .i64 x.2]) (.agg #[.int .i64 y.1, .int .i64 y.2])).run Try.prog w = .ok (.bool (decide (x = y))) w := by
  have e : decide (x = y) = (decide (x.1 = y.1) && decide (x.2 = y.2)) := by
    rw [Bool.eq_iff_iff]
    obtain ⟨a, b⟩ := x
    obtain ⟨a', b'⟩ := y
    simp
  rw [e]
  go_simp
  by_cases h1 : x.1 = y.1 <;> by_cases h2 : x.2 = y.2 <;> simp [h1, h2]
theorem run_neK (x y : K4) (w : World) : (binOp .neq 48 (.agg #[.int .u8 x.kind, .int .i64 x.a, .int .i64 x.b, .int .i64 x.n]) (.agg #[.int .u8 y.kind, .int .i64 y.a, .int .i64 y.b, .int .i64 y.n])).run Try.prog w = .ok (.bool (!decide (x = y))) w := by
  have e : decide (x = y) = (decide (x.kind = y.kind) && (decide (x.a = y.a) && (decide (x.b = y.b) && decide (x.n = y.n)))) := by
    rw [Bool.eq_iff_iff]
    obtain ⟨a, b, c, d⟩ := x
    obtain ⟨a', b', c', d'⟩ := y
    simp
  rw [e]
  go_simp
  by_cases h1 : x.kind = y.kind <;> by_cases h2 : x.a = y.a <;> by_cases h3 : x.b = y.b <;> by_cases h4 : x.n = y.n <;> simp [h1, h2, h3, h4]
theorem run_neR (x y : Int × Int) (w : World) : (binOp .neq 32 (.agg #[.int .i64 x.1, .int .i64 x.2]) (.agg #[.int .i64 y.1, .int .i64 y.2])).run Try.prog w = .ok (.bool (!decide (x = y))) w := by
  have e : decide (x = y) = (decide (x.1 = y.1) && decide (x.2 = y.2)) := by
    rw [Bool.eq_iff_iff]
    obtain ⟨a, b⟩ := x
    obtain ⟨a', b'⟩ := y
    simp
  rw [e]
  go_simp
  by_cases h1 : x.1 = y.1 <;> by_cases h2 : x.2 = y.2 <;> simp [h1, h2]
end Go.Proofs.Ytemeppfikpafbaa
