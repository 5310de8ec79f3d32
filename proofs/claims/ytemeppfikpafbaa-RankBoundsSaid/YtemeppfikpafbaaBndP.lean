/- Plain laws of RankBounds. -/
import Derived.Test.YtemeppfikpafbaaAppR
import Derived.Test.YtemeppfikpafbaaNest
namespace Go.Proofs.Ytemeppfikpafbaa
open Go.RowKit
theorem bnd_top {n : Nat} (h : 0 < n) : cmpR (degR n) (degR 1) ≤ 0 := by
  have := cmpR_pos n 1
  omega
theorem bnd_low {n : Nat} (h : 0 < n) : 0 < cmpR (degR n) (degR 0) := (cmpR_pos n 0).2 ⟨h, Or.inl rfl⟩
theorem shares_pos {l : List Cau} {s : List Shr} (h : IsShares l (s.map shN)) {x : Shr} (hx : x ∈ s) : 0 < x.2.val := by
  obtain ⟨h1, h2⟩ := (h.2 (shN x)).1 (List.mem_map_of_mem hx)
  simp only [shN] at h1 h2
  omega
/-- Neighbours: the degree descends, or the key ascends. -/
theorem shares_adj {l : List Cau} {s : List Shr} (h : IsShares l (s.map shN)) {i : Nat} (hi : i + 1 < s.length) :
    0 < cmpR (degR s[i].2.val) (degR s[i + 1].2.val) ∨ (cmpR (degR s[i].2.val) (degR s[i + 1].2.val) = 0 ∧ cmpK4 s[i].1 s[i + 1].1 < 0) := by
  have h1 := List.pairwise_iff_getElem.1 h.1 i (i + 1) (by simp; omega) (by simpa using hi) (by omega)
  simp only [List.getElem_map] at h1
  rcases h1 with h1 | ⟨h1, h2⟩
  · left
    rw [cmpR_pos]
    exact h1
  · right
    simp only [shN] at h1 h2
    exact ⟨(cmpR_zero _ _).2 h1, (cmpK4_neg _ _).2 h2⟩
/-- The greatest degree of a list. -/
def maxD (l : List (Fin 1001)) : Nat := l.foldl (fun b n => jv b n.val) 0
theorem maxD_push (l : List (Fin 1001)) (n : Fin 1001) : maxD (l ++ [n]) = jv (maxD l) n.val := by unfold maxD; rw [List.foldl_append]; rfl
theorem maxD_take (l : List (Fin 1001)) (j : Nat) (h : j < l.length) : maxD (l.take (j + 1)) = jv (maxD (l.take j)) l[j].val := by rw [List.take_succ_eq_append_getElem h, maxD_push]
theorem maxD_le (l : List (Fin 1001)) : maxD l ≤ 1000 := by
  have h : ∀ (l : List (Fin 1001)) (b : Nat), b ≤ 1000 → l.foldl (fun b n => jv b n.val) b ≤ 1000 := by
    intro l
    induction l with
    | nil => intro b h; exact h
    | cons x r ih =>
      intro b h
      rw [List.foldl_cons]
      refine ih _ ?_
      have := x.isLt
      unfold jv
      split <;> omega
  exact h l 0 (by omega)
theorem maxD_head {n : Fin 1001} {l : List (Fin 1001)} (hn : 0 < n.val) (h : ∀ m ∈ l, n.val ≤ m.val) : maxD (n :: l) = n.val := by
  have g : ∀ (l : List (Fin 1001)), (∀ m ∈ l, n.val ≤ m.val) → l.foldl (fun b n => jv b n.val) n.val = n.val := by
    intro l
    induction l with
    | nil => intro _; rfl
    | cons x r ih =>
      intro h
      rw [List.foldl_cons]
      have h1 := h x (by simp)
      rw [show jv n.val x.val = n.val by unfold jv; rw [if_neg (by omega)]]
      exact ih fun m hm => h m (List.mem_cons_of_mem _ hm)
  unfold maxD
  rw [List.foldl_cons, show jv 0 n.val = n.val by unfold jv; rw [if_pos ⟨hn, Or.inl rfl⟩]]
  exact g l h
theorem shares_max {l : List Cau} {x : Shr} {r : List Shr} (h : IsShares l ((x :: r).map shN)) : maxD ((x :: r).map (·.2)) = x.2.val := by
  rw [List.map_cons]
  refine maxD_head (shares_pos h (by simp)) fun m hm => ?_
  obtain ⟨y, hy, rfl⟩ := List.mem_map.1 hm
  have h1 := (List.pairwise_cons.1 h.1).1 (shN y) (List.mem_map_of_mem hy)
  have h2 := shares_pos h (List.mem_cons_of_mem _ hy)
  rcases h1 with h1 | ⟨h1, _⟩
  · unfold ltN at h1; simp only [shN] at h1; omega
  · simp only [shN] at h1; omega
/-- Keys together have at most the degree of each. -/
theorem joint_each (L : List Cau) {kk : List K4} {k : K4} (hk : k ∈ kk) : cmpR (degR (jointN L kk)) (degR (jointN L [k])) ≤ 0 := by
  have h : ¬ (0 < jointN L kk ∧ (jointN L [k] = 0 ∨ jointN L kk < jointN L [k])) := by
    rintro ⟨h1, h2⟩
    obtain ⟨c, hc, ha, hs⟩ := (isJoint L kk).2 h1
    have := (isJoint L [k]).1 c hc (by simpa using ha k hk) (by omega)
    omega
  rw [← cmpR_pos] at h
  omega
end Go.Proofs.Ytemeppfikpafbaa
