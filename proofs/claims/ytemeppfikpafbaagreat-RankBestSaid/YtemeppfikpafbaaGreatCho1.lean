/- Choices without number and arguments: within (152), timed (151), CheckKey (150), Check (99), key (54), clone (100), New$1 (127), slices.Equal (166), same (163), equal (132). -/
import Derived.Test.YtemeppfikpafbaaGreatBitL
import Derived.Test.YtemeppfikpafbaaGreatRCmp
namespace Go.Proofs.YtemeppfikpafbaaGreat
open Go.RowKit
def chA (x : Ch) : Value := .agg #[.int .u8 x.k.kind, .int .i64 x.k.a, .int .i64 x.k.b, .int .i64 x.k.n, .int .i64 x.t, .int .i64 0, .slice none 0 0]
structure ChOk (x : Ch) : Prop where
  kind : x.k.kind = 4
  a0 : 0 ≤ x.k.a
  a1 : x.k.a ≤ 7
  b : x.k.b = 0
  n0 : 0 ≤ x.k.n
  n1 : x.k.n ≤ 65535
  t0 : 0 ≤ x.t
  t1 : x.t ≤ 200
theorem chI_ok {i : Nat} (h : i < 16) : ChOk (chI i) := by
  have h1 : i % 4 < 4 := Nat.mod_lt _ (by omega)
  have h2 : i / 4 < 4 := by omega
  constructor <;> simp only [chI, keyI] <;> omega
theorem setCh_ok (b : Nat) : ∀ x ∈ setCh b, ChOk x := by
  intro x hx
  obtain ⟨i, hi, _, rfl⟩ := mem_setCh.1 hx
  exact chI_ok hi
theorem Lay.setAt {w w1 : World} (h : Lay w w1) {B o : Nat} (hB : w.heap.size ≤ B) (v : Value) : Lay w (w1.setCell ⟨B, o, none⟩ v) := h.setOwn hB v
theorem eqCh (x y : Ch) : decide (x = y) = (decide (x.k = y.k) && decide (x.t = y.t)) := by
  rw [Bool.eq_iff_iff]
  obtain ⟨a, b⟩ := x
  obtain ⟨a', b'⟩ := y
  simp
end Go.Proofs.YtemeppfikpafbaaGreat
