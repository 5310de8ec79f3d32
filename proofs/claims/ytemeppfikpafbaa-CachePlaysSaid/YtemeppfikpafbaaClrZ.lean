/- clear(s) of a slice of structs; cells written in a row. -/
import Derived.Test.YtemeppfikpafbaaInvS
import Derived.Test.YtemeppfikpafbaaNilB
import Derived.Deep.RegionLaw
import Derived.Lib.SliceRun
import Derived.Deep.DeepAppendRoom
import Derived.Deep.DeepCutAuto
namespace Go.Proofs.Ytemeppfikpafbaa
open Go.RowKit
theorem zero_cells (z : Value) (n k : Nat) (hz : z.cells.size = k) (h1 : ∀ u ∈ z.cells.toList, u.oneCell' = true) : (Builtin.zeroCells z.cells n).toList.length = n * k ∧ ∀ u ∈ (Builtin.zeroCells z.cells n).toList, u.oneCell' = true := by
  constructor
  · simp [Builtin.zeroCells, hz]
  · intro u hu
    unfold Builtin.zeroCells at hu
    rw [Array.toList_map, List.mem_map] at hu
    obtain ⟨i, hi, rfl⟩ := hu
    have hin : i < n * z.cells.size := by simpa using hi
    have hpos : 0 < z.cells.size := by
      rcases Nat.eq_zero_or_pos z.cells.size with h | h
      · rw [h, Nat.mul_zero] at hin; omega
      · exact h
    have hlt := Nat.mod_lt i hpos
    rw [getElem!_pos z.cells (i % z.cells.size) hlt]
    exact h1 _ (Array.getElem_mem_toList hlt)
theorem zero_one (z : Value) : (Builtin.zeroCells z.cells 1).toList = z.cells.toList := by
  apply List.ext_getElem
  · simp [Builtin.zeroCells]
  · intro i h1 h2
    have h2' : i < z.cells.size := by simpa using h2
    simp [Builtin.zeroCells, Nat.mod_eq_of_lt h2', getElem!_pos z.cells i h2']
/-- 'clear(s)' of n > 0 elements of k cells each. -/
theorem run_clear_cells {P : Program} (w : World) (t e ty : TypeId) (z : Value) (ht : P.underlying t = some (.slice e)) (hv : ∀ w, (zeroValue e).run P w = .ok z w) (k : Nat) (hz : z.cells.size = k) (h1 : ∀ u ∈ z.cells.toList, u.oneCell' = true) (b o n c : Nat) (hn : 0 < n)
    (hc : ∀ j, j < n * k → (w.cell? ⟨b, o + j, none⟩).isSome = true) (hf : ∀ j, j < n * k → w.frozen? ⟨b, o + j, none⟩ = false) :
    (Builtin.clear_ #[t] ty #[.slice (some ⟨b, o, none⟩) n c]).run P w = .ok (.tuple #[]) (w.setCells b o (Builtin.zeroCells z.cells n).toList) := by
  obtain ⟨hl, hu⟩ := zero_cells z n k hz h1
  have hst := run_storeCells_cells (P := P) b o (Builtin.zeroCells z.cells n).toList 0 w (by rw [hl]; simpa using hc) (by rw [hl]; simpa using hf) hu
  simp only [Nat.add_zero] at hst
  obtain ⟨m, rfl⟩ : ∃ m, n = m + 1 := ⟨n - 1, by omega⟩
  simp [Builtin.clear_, run_underlying ht, hv, hst]
/-- An own block: cells behind the row may be written. -/
theorem owns_cells {w : World} {B : Nat} {e : TypeId} {size n g cap : Nat} {xs : List Value} (h : w.ownsRow B e size (.slice (some ⟨g, 0, none⟩) n cap) n xs) :
    B ≤ g ∧ n ≤ cap ∧ ∃ cur : Array Value, w.heap[g]? = some (.cells cur e (0, 0)) ∧ cur.size = cap * size ∧ cur.toList.take (n * size) = xs ∧ cap ≤ maxLen := by
  obtain ⟨_, ⟨h0, _⟩ | ⟨g', cap', cur, hv, hb, hg, hnc, hcm, hcs, htk⟩⟩ := h
  · cases h0
  · cases hv
    exact ⟨hb, hnc, cur, hg, hcs, htk, hcm⟩
theorem owns_of {w : World} {B : Nat} {e : TypeId} {size n g cap : Nat} {cur : Array Value} (hb : B ≤ g) (hg : w.heap[g]? = some (.cells cur e (0, 0))) (hnc : n ≤ cap) (hcs : cur.size = cap * size) (hcm : cap ≤ maxLen) :
    w.ownsRow B e size (.slice (some ⟨g, 0, none⟩) n cap) n (cur.toList.take (n * size)) := by
  refine ⟨?_, .inr ⟨g, cap, cur, rfl, hb, hg, hnc, hcm, hcs, rfl⟩⟩
  rw [List.length_take, Array.length_toList, hcs]
  exact Nat.min_eq_left (Nat.mul_le_mul_right _ hnc)
theorem setCells_eq (b : Nat) : ∀ (vs : List Value) (o : Nat) (w : World), w.setCells b o vs = setC w b o vs
  | [], _, _ => rfl
  | v :: r, o, w => by
    show (w.setCell ⟨b, o, none⟩ v).setCells b (o + 1) r = setC (w.setCell ⟨b, o, none⟩ v) b (o + 1) r
    exact setCells_eq b r _ _
theorem setCells_heap (b : Nat) (e : TypeId) : ∀ (vs : List Value) (o : Nat) (w : World) (cur : Array Value), w.heap[b]? = some (.cells cur e) → o + vs.length ≤ cur.size → (w.setCells b o vs).heap[b]? = some (.cells (cur.toList.take o ++ vs ++ cur.toList.drop (o + vs.length)).toArray e)
  | [], o, w, cur, h, _ => by
    show w.heap[b]? = _
    rw [h]; simp
  | v :: r, o, w, cur, h, hl => by
    rw [List.length_cons] at hl
    show ((w.setCell ⟨b, o, none⟩ v).setCells b (o + 1) r).heap[b]? = _
    rw [setCells_heap b e r (o + 1) _ (cur.setIfInBounds o v) (setCell_heap h) (by rw [Array.size_setIfInBounds]; omega)]
    have e1 : (cur.setIfInBounds o v).toList = cur.toList.set o v := Array.toList_setIfInBounds ..
    have ho : o < (cur.toList.set o v).length := by rw [List.length_set, Array.length_toList]; omega
    have e2 : (cur.toList.set o v).take (o + 1) = cur.toList.take o ++ [v] := by
      rw [List.take_succ_eq_append_getElem ho, List.getElem_set_self, List.take_set_of_le (Nat.le_refl _)]
    have e3 : (cur.toList.set o v).drop (o + 1 + r.length) = cur.toList.drop (o + (v :: r).length) := by
      rw [List.drop_set_of_lt (by omega), List.length_cons]; congr 1; omega
    rw [e1, e2, e3]
    simp
theorem setCells_grown (w : World) (b o : Nat) (vs : List Value) : w.grownBy (w.setCells b o vs) (some b) := by rw [setCells_eq]; exact setC_grown w b o vs
theorem setCells_frozen (w : World) (b o : Nat) (vs : List Value) (a : Addr) : (w.setCells b o vs).frozen? a = w.frozen? a := World.frozen?_setCells b vs o w a
end Go.Proofs.Ytemeppfikpafbaa
