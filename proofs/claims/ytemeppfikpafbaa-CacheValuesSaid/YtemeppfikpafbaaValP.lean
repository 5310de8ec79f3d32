/- A set with one choice taken out and another put in: plain laws of CacheValues. -/
import Derived.Test.YtemeppfikpafbaaBitE
namespace Go.Proofs.Ytemeppfikpafbaa
open Go.RowKit
def outC (s : List Ch) (ks : List K4) : List Ch := s.filter fun x => !decide (x.k ∈ ks)
theorem outC_asc {s : List Ch} (h : AscC s) (ks : List K4) : AscC (outC s ks) := List.Pairwise.filter _ h
theorem mem_outC {s : List Ch} {ks : List K4} {x : Ch} : x ∈ outC s ks ↔ x ∈ s ∧ x.k ∉ ks := by
  unfold outC; rw [List.mem_filter]; simp
def insC (s : List Ch) (p : Nat) (c : Ch) : List Ch := s.take p ++ c :: s.drop p
theorem mem_insC {s : List Ch} {p : Nat} {c x : Ch} : x ∈ insC s p c ↔ x = c ∨ x ∈ s := by
  unfold insC
  rw [List.mem_append, List.mem_cons]
  conv => rhs; rw [← List.take_append_drop p s, List.mem_append]
  constructor
  · rintro (h | h | h)
    · exact Or.inr (Or.inl h)
    · exact Or.inl h
    · exact Or.inr (Or.inr h)
  · rintro (h | h | h)
    · exact Or.inr (Or.inl h)
    · exact Or.inl h
    · exact Or.inr (Or.inr h)
theorem insC_len {s : List Ch} {p : Nat} {c : Ch} (hp : p ≤ s.length) : (insC s p c).length = s.length + 1 := by
  unfold insC
  rw [List.length_append, List.length_cons, List.length_take, List.length_drop]; omega
theorem insC_asc {s : List Ch} (ha : AscC s) {p : Nat} {c : Ch} (hp : PlaceC s c.k p) (hne : ∀ x ∈ s, x.k ≠ c.k) : AscC (insC s p c) := by
  obtain ⟨hpl, h1, h2⟩ := hp
  have ht : ∀ x ∈ s.take p, ltC x c := by
    intro x hx
    obtain ⟨i, hi, rfl⟩ := List.mem_iff_getElem.1 hx
    have hi' : i < p ∧ i < s.length := by rw [List.length_take] at hi; omega
    rw [List.getElem_take]
    exact (cmpK_by.neg _ _).1 (h1 i hi'.2 hi'.1)
  have hd : ∀ x ∈ s.drop p, ltC c x := by
    intro x hx
    obtain ⟨i, hi, rfl⟩ := List.mem_iff_getElem.1 hx
    have hi' : p + i < s.length := by rw [List.length_drop] at hi; omega
    rw [List.getElem_drop]
    have h3 := h2 (p + i) hi' (by omega)
    have h4 : ¬ ltK s[p + i].k c.k := fun h => by have := (cmpK_by.neg _ _).2 h; omega
    refine Classical.byContradiction fun h5 => ?_
    exact hne _ (List.getElem_mem hi') (cmpK_by.tri _ _ h4 h5)
  unfold insC AscC
  rw [List.pairwise_append]
  refine ⟨List.Pairwise.sublist (List.take_sublist _ _) ha, List.pairwise_cons.2 ⟨hd, List.Pairwise.sublist (List.drop_sublist _ _) ha⟩, fun x hx y hy => ?_⟩
  rcases List.mem_cons.1 hy with rfl | hy
  · exact ht x hx
  · exact ltC_trans _ _ _ (ht x hx) (hd y hy)
/-- What the cache answers for the set with the other choice. -/
theorem get_other {b i : Nat} (hi : i < 16) (hb : b.testBit i = true) {t : Int} {O : List Ch} (hO : ∀ x, x ∈ O ↔ x = ⟨keyI i, t⟩ ∨ (x ∈ setCh b ∧ x.k ≠ keyI i)) :
    getR (getE [entB b 0 0 false true] O (holdM 0)) = .tuple #[.bool (decide (t = (i : Int))), .bool (decide (t = (i : Int)))] := by
  have hz : (minusL O (setCh b)).length = 0 ↔ t = (i : Int) := by
    rw [List.length_eq_zero_iff]
    unfold minusL
    rw [List.filter_eq_nil_iff]
    constructor
    · intro h
      have h1 := h ⟨keyI i, t⟩ ((hO _).2 (Or.inl rfl))
      have h2 : (⟨keyI i, t⟩ : Ch) ∈ setCh b := by simpa using h1
      obtain ⟨j, hj, h3, e⟩ := mem_setCh.1 h2
      simp only [chI, Ch.mk.injEq] at e
      have := keyI_inj e.1
      subst this
      exact e.2
    · rintro rfl x hx
      rcases (hO x).1 hx with rfl | ⟨h1, _⟩
      · have : (⟨keyI i, (i : Int)⟩ : Ch) ∈ setCh b := (chI_mem hi).2 hb
        simpa using this
      · simpa using h1
  have happ : appB (entB b 0 0 false true) O (holdM 0) = decide (t = (i : Int)) := by
    unfold appB entB
    dsimp only
    rw [us_bits (c := b) (u := 0) (by simp) _ (fun j hj => (mem_ord16 false j).1 hj)]
    have e0 : pick (ord16 false) 0 = [] := by unfold pick; simp
    rw [e0, List.map_nil, List.any_nil, decide_eq_true rfl, Bool.true_and, Bool.not_false, Bool.and_true]
    exact decide_eq_decide.2 hz
  unfold getE
  rw [List.reverse_singleton, List.find?_cons, happ]
  cases decide (t = (i : Int)) <;> rfl
end Go.Proofs.Ytemeppfikpafbaa
