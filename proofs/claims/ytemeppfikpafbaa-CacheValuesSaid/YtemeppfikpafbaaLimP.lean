/- The newest entries: plain laws of CacheLimits. -/
import Derived.Test.YtemeppfikpafbaaBitE
namespace Go.Proofs.Ytemeppfikpafbaa
open Go.RowKit
/-- What remains of a list of entries within a limit, where at most one is too many. -/
def limE {α : Type} (lim : Int) (E : List α) : List α := if (E.length : Int) ≤ lim then E else E.drop 1
theorem limE_len {α : Type} {lim : Int} {E : List α} {e : α} (h : (E.length : Int) ≤ lim) : ((limE lim (E ++ [e])).length : Int) ≤ lim := by
  unfold limE
  split
  · assumption
  · rw [List.length_drop, List.length_append, List.length_singleton]; omega
def entL (j : Nat) : Ent := entB (2 ^ j) 0 (2 ^ j) false (decide (j % 2 = 0))
def entsL (most i : Nat) : List Ent := ((List.range i).drop (i - most)).map entL
theorem entsL_len (most i : Nat) : (entsL most i).length = min i most := by
  unfold entsL; rw [List.length_map, List.length_drop, List.length_range]; omega
theorem entsL_zero (most : Nat) : entsL most 0 = [] := by unfold entsL; simp
theorem entsL_step (most i : Nat) : limE most (entsL most i ++ [entL i]) = entsL most (i + 1) := by
  have e1 : entsL most i ++ [entL i] = ((List.range (i + 1)).drop (i - most)).map entL := by
    unfold entsL
    rw [List.range_succ, List.drop_append_of_le_length (by rw [List.length_range]; omega), List.map_append, List.map_singleton]
  rw [e1]
  unfold limE entsL
  rw [List.length_map, List.length_drop, List.length_range]
  by_cases h : i + 1 ≤ most
  · rw [if_pos (by omega), show i - most = i + 1 - most by omega]
  · rw [if_neg (by omega), ← List.map_drop, List.drop_drop, show i - most + 1 = i + 1 - most by omega]
theorem two_sub {i j : Nat} : (2 ^ i &&& 2 ^ j = 2 ^ i) ↔ i = j := by
  constructor
  · intro h
    have := congrArg (fun n => n.testBit i) h
    simp only [Nat.testBit_and, Nat.testBit_two_pow_self, Bool.true_and] at this
    rw [Nat.testBit_two_pow] at this
    have h2 : j = i := by simpa using this
    exact h2.symm
  · rintro rfl
    exact Nat.and_self _
theorem two_lt {i : Nat} (h : i < 16) : 2 ^ i < 65536 := Nat.lt_of_lt_of_le (Nat.pow_lt_pow_right (by omega) h) (by decide)
theorem app_two {i j : Nat} (hi : i < 16) (hj : j < 16) : appB (entL j) (setCh (2 ^ i)) (holdM 0) = decide (i = j) := by
  unfold entL
  rw [app_bits false _ (Nat.and_self _) (two_lt hj) (two_lt hi) (by decide) (by decide), Bool.eq_iff_iff]
  simp only [decide_true, Bool.true_and, Bool.and_eq_true, decide_eq_true_eq, two_sub]
  constructor
  · exact fun h => h.1
  · intro h; exact ⟨h, h.symm⟩
theorem get_limits {n most i : Nat} (hn : n ≤ 16) (hi : i < n) : getR (getE (entsL most n) (setCh (2 ^ i)) (holdM 0)) = .tuple #[.bool (decide (n - most ≤ i) && decide (i % 2 = 0)), .bool (decide (n - most ≤ i))] := by
  by_cases h : n - most ≤ i
  · have hl : i - (n - most) < (entsL most n).length := by rw [entsL_len]; omega
    have he : (entsL most n)[i - (n - most)] = entL i := by
      have h0 : ∀ (h : i - (n - most) < (((List.range n).drop (n - most)).map entL).length), (((List.range n).drop (n - most)).map entL)[i - (n - most)] = entL i := fun h => by
        rw [List.getElem_map, List.getElem_drop, List.getElem_range]
        congr 1; omega
      exact h0 hl
    rw [getE_at hl (by rw [he, app_two (by omega) (by omega)]; simp) (fun e he => by
      unfold entsL at he
      rw [← List.map_drop, List.drop_drop, List.mem_map] at he
      obtain ⟨j, hj, rfl⟩ := he
      have h1 := List.mem_of_mem_drop hj
      rw [List.mem_range] at h1
      rw [app_two (by omega) (by omega), decide_eq_false_iff_not]
      rintro rfl
      rw [List.mem_iff_getElem] at hj
      obtain ⟨q, hq, e⟩ := hj
      simp only [List.getElem_drop, List.getElem_range] at e
      omega), he, decide_eq_true h]
    rfl
  · rw [getE_none (fun e he => by
      unfold entsL at he
      rw [List.mem_map] at he
      obtain ⟨j, hj, rfl⟩ := he
      have h1 := List.mem_of_mem_drop hj
      rw [List.mem_range] at h1
      rw [app_two (by omega) (by omega), decide_eq_false_iff_not]
      rintro rfl
      rw [List.mem_iff_getElem] at hj
      obtain ⟨q, hq, e⟩ := hj
      simp only [List.getElem_drop, List.getElem_range] at e
      omega), decide_eq_false h]
    rfl
end Go.Proofs.Ytemeppfikpafbaa
