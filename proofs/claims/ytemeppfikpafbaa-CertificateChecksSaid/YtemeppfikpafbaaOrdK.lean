/- The orders of keys, messages and shares, in plain words. -/
import Derived.Test.YtemeppfikpafbaaKeys
import Derived.Sort.Statements
import Derived.Shelf.SlSortCmp.Insertion
namespace Go.Proofs.Ytemeppfikpafbaa
open Go.RowKit Go.Sort Go.Shelf
theorem orI_neg (c : Int) (r : List Int) : orI (c :: r) < 0 ↔ c < 0 ∨ (c = 0 ∧ orI r < 0) := by
  rw [show orI (c :: r) = if c = 0 then orI r else c from rfl]
  split
  · rename_i h; subst h; simp
  · rename_i h; constructor
    · exact Or.inl
    · rintro (h' | ⟨h', _⟩)
      · exact h'
      · exact absurd h' h
theorem orI_zero (c : Int) (r : List Int) : orI (c :: r) = 0 ↔ c = 0 ∧ orI r = 0 := by
  rw [show orI (c :: r) = if c = 0 then orI r else c from rfl]
  split
  · rename_i h; subst h; simp
  · rename_i h; simp [h]
theorem orI_nil : orI [] = 0 := rfl
/-- The order of keys. -/
def ltK (x y : K4) : Prop := x.kind < y.kind ∨ (x.kind = y.kind ∧ (x.a < y.a ∨ (x.a = y.a ∧ (x.b < y.b ∨ (x.b = y.b ∧ x.n < y.n)))))
theorem cmpK4_neg (x y : K4) : cmpK4 x y < 0 ↔ ltK x y := by
  unfold cmpK4 ltK
  rw [orI_neg, orI_neg, orI_neg, orI_neg, orI_nil, cmpI_neg, cmpI_neg, cmpI_neg, cmpI_neg, cmpI_zero, cmpI_zero, cmpI_zero]
  simp
theorem ltK_irrefl (x : K4) : ¬ ltK x x := by unfold ltK; omega
theorem ltK_trans {x y z : K4} (h : ltK x y) (h' : ltK y z) : ltK x z := by unfold ltK at *; omega
theorem ltK_tri {x y : K4} (h : ¬ ltK x y) (h' : ¬ ltK y x) : x = y := by
  obtain ⟨a, b, c, d⟩ := x
  obtain ⟨a', b', c', d'⟩ := y
  unfold ltK at h h'
  simp only at h h'
  have h1 : a = a' := by omega
  have h2 : b = b' := by omega
  have h3 : c = c' := by omega
  have h4 : d = d' := by omega
  rw [h1, h2, h3, h4]
instance (x y : K4) : Decidable (ltK x y) := by unfold ltK; infer_instance
theorem sgnK_neg (x y : K4) : sgnK x y < 0 ↔ ltK x y := by
  unfold sgnK
  rw [← cmpK4_neg]
  split
  · rename_i h; simp [h]
  · rename_i h
    split <;> simp [h]
theorem sgnK_zero (x y : K4) : sgnK x y = 0 ↔ x = y := by
  unfold sgnK
  constructor
  · intro h
    split at h
    · simp at h
    · rename_i h1
      split at h
      · simp at h
      · rename_i h2
        exact ltK_tri (fun e => h1 ((cmpK4_neg _ _).2 e)) (fun e => h2 ((cmpK4_neg _ _).2 e))
  · rintro rfl
    rw [if_neg (fun e => ltK_irrefl x ((cmpK4_neg _ _).1 e)), if_neg (fun e => ltK_irrefl x ((cmpK4_neg _ _).1 e))]
/-- A comparison by a strict total order. -/
structure CmpBy {α : Type} (cf : α → α → Int) (lt : α → α → Prop) : Prop where
  neg : ∀ x y, cf x y < 0 ↔ lt x y
  irrefl : ∀ x, ¬ lt x x
  trans : ∀ x y z, lt x y → lt y z → lt x z
  tri : ∀ x y, ¬ lt x y → ¬ lt y x → x = y
section
variable {α : Type} {cf : α → α → Int} {lt : α → α → Prop}
theorem CmpBy.ltOf (h : CmpBy cf lt) (x y : α) : ltOf cf x y = true ↔ lt x y := by unfold Go.Proofs.ltOf; rw [decide_eq_true_eq]; exact h.neg x y
theorem CmpBy.ltOf' (h : CmpBy cf lt) (x y : α) : Go.Proofs.ltOf cf x y = false ↔ ¬ lt x y := by rw [← h.ltOf, Bool.not_eq_true]
theorem CmpBy.swo (h : CmpBy cf lt) : SWO (Go.Proofs.ltOf cf) where
  irrefl x := (h.ltOf' x x).2 (h.irrefl x)
  trans x y z h1 h2 := (h.ltOf x z).2 (h.trans x y z ((h.ltOf x y).1 h1) ((h.ltOf y z).1 h2))
  ntrans x y z h1 h2 := by
    rw [h.ltOf'] at *
    intro h3
    by_cases e : lt y x
    · exact h2 (h.trans _ _ _ e h3)
    · have := h.tri x y h1 e
      subst this
      exact h2 h3
theorem CmpBy.total (h : CmpBy cf lt) (x y : α) (h1 : Go.Proofs.ltOf cf x y = false) (h2 : Go.Proofs.ltOf cf y x = false) : x = y := h.tri x y ((h.ltOf' x y).1 h1) ((h.ltOf' y x).1 h2)
/-- The sorted list is ascending, where no element stands twice. -/
theorem CmpBy.sorted (h : CmpBy cf lt) (l : List α) (hn : l.Nodup) : (l.mergeSort fun x y => !(Go.Proofs.ltOf cf) y x).Pairwise lt := by
  have h1 : (l.mergeSort fun x y => !(Go.Proofs.ltOf cf) y x).Pairwise (fun x y => (!(Go.Proofs.ltOf cf) y x) = true) := by
    refine List.pairwise_mergeSort (fun a b c h1 h2 => ?_) (fun a b => ?_) l
    · rw [Bool.not_eq_true', h.ltOf'] at *
      intro h3
      by_cases e : lt b a
      · exact h1 e
      · by_cases e' : lt a b
        · exact h2 (h.trans _ _ _ h3 e')
        · have := h.tri a b e' e
          subst this
          exact h2 h3
    · rw [Bool.or_eq_true, Bool.not_eq_true', Bool.not_eq_true', h.ltOf', h.ltOf']
      by_cases e : lt b a
      · right; intro e'; exact h.irrefl _ (h.trans _ _ _ e e')
      · left; exact e
  have hn' : (l.mergeSort fun x y => !(Go.Proofs.ltOf cf) y x).Nodup := (List.mergeSort_perm l _).nodup_iff.2 hn
  refine (List.Pairwise.and h1 hn').imp fun {a b} hab => ?_
  obtain ⟨h2, h3⟩ := hab
  rw [Bool.not_eq_true', h.ltOf'] at h2
  by_cases e : lt a b
  · exact e
  · exact absurd (h.tri a b e h2) h3
end
theorem cmpK_by : CmpBy cmpK4 ltK := ⟨cmpK4_neg, ltK_irrefl, fun _ _ _ => ltK_trans, fun _ _ => ltK_tri⟩
theorem sgnK_by : CmpBy sgnK ltK := ⟨sgnK_neg, ltK_irrefl, fun _ _ _ => ltK_trans, fun _ _ => ltK_tri⟩
end Go.Proofs.Ytemeppfikpafbaa
