/- Insertion sort keeps the order of equal keys. No program in sight. -/
import Derived.Test.YtekhoanjpnjaeaaTab
namespace Go.Proofs.Ytekhoanjpnjaeaa
open Go.Sort
def keyLt (x y : Int × Int) : Bool := decide (x.1 < y.1)
theorem keyLt_swo : SWO keyLt where
  irrefl x := by simp [keyLt]
  trans x y z := by simp only [keyLt, decide_eq_true_eq]; omega
  ntrans x y z := by simp only [keyLt, decide_eq_false_iff_not]; omega
theorem swp_list (d : Array (Int × Int)) (j : Nat) (hj : j + 1 < d.size) : ∃ a b, d.toList = a ++ d[j]! :: d[j + 1]! :: b ∧ (swp d (j + 1) j).toList = a ++ d[j + 1]! :: d[j]! :: b := by
  have h0 : d.toList[j]'(by simp; omega) = d[j]! := by rw [getElem!_pos d j (by omega)]; simp
  have h1 : d.toList[j + 1]'(by simp; omega) = d[j + 1]! := by rw [getElem!_pos d (j + 1) hj]; simp
  have e : d.toList = d.toList.take j ++ d[j]! :: d[j + 1]! :: d.toList.drop (j + 1 + 1) := by
    conv => lhs; rw [← List.take_append_drop j d.toList]
    rw [List.drop_eq_getElem_cons (i := j) (by simp; omega), List.drop_eq_getElem_cons (i := j + 1) (by simp; omega), h0, h1]
  refine ⟨d.toList.take j, d.toList.drop (j + 1 + 1), e, ?_⟩
  have hs : (swp d (j + 1) j).toList = (d.toList.set (j + 1) d[j]!).set j d[j + 1]! := by simp [swp]
  rw [hs]
  have hl : (d.toList.take j).length = j := by simp; omega
  generalize d.toList.take j = a at *
  generalize d.toList.drop (j + 1 + 1) = b at *
  generalize d[j]! = x at *
  generalize d[j + 1]! = y at *
  rw [e]
  subst hl
  simp
theorem swp_stab (d : Array (Int × Int)) (j : Nat) (hj : j + 1 < d.size) (h : d[j + 1]!.1 ≠ d[j]!.1) : Stab d.toList (swp d (j + 1) j).toList := by
  obtain ⟨a, b, h1, h2⟩ := swp_list d j hj
  rw [h2]
  have := Stab.swap a d[j]! d[j + 1]! b (fun e => h e.symm)
  rwa [← h1] at this
theorem insInner_stab (a : Nat) : ∀ (j : Nat) (d : Array (Int × Int)), j < d.size → Stab d.toList (insInner keyLt a j d).toList ∧ (insInner keyLt a j d).size = d.size
  | 0, d, _ => ⟨Stab.refl _, rfl⟩
  | j + 1, d, h => by
    unfold insInner
    split
    · rename_i c
      have c2 : d[j + 1]!.1 < d[j]!.1 := by
        have c3 := (Bool.and_eq_true _ _ ▸ c).2
        unfold keyLt at c3; exact of_decide_eq_true c3
      have ih := insInner_stab a j (swp d (j + 1) j) (by rw [size_swp]; omega)
      rw [size_swp] at ih
      exact ⟨(swp_stab d j h (by omega)).trans ih.1, ih.2⟩
    · exact ⟨Stab.refl _, rfl⟩
theorem insOuter_stab (a b : Nat) : ∀ (n i : Nat) (d : Array (Int × Int)), b - i = n → b ≤ d.size → Stab d.toList (insOuter keyLt a b i d).toList ∧ (insOuter keyLt a b i d).size = d.size
  | 0, i, d, h, _ => by
    unfold insOuter
    rw [if_neg (by omega)]
    exact ⟨Stab.refl _, rfl⟩
  | n + 1, i, d, h, hb => by
    unfold insOuter
    rw [if_pos (by omega)]
    have h1 := insInner_stab a i d (by omega)
    have h2 := insOuter_stab a b n (i + 1) (insInner keyLt a i d) (by omega) (by rw [h1.2]; exact hb)
    rw [h1.2] at h2
    exact ⟨h1.1.trans h2.1, h2.2⟩
/-- Insertion sort of a part: of each key the same entries in the same order; what lies outside stays; the part is in order. -/
theorem insertion_stab (d : Array (Int × Int)) (a b : Nat) (hab : a ≤ b) (hb : b ≤ d.size) : Stab d.toList (insertionSort keyLt d a b).toList ∧ (insertionSort keyLt d a b).size = d.size ∧ (∀ i, i < a ∨ b ≤ i → (insertionSort keyLt d a b)[i]! = d[i]!) ∧ SortedIn keyLt a b (insertionSort keyLt d a b) := by
  obtain ⟨⟨_, h2, _⟩, h4⟩ := insertionSort_holds keyLt_swo d a b hab hb
  obtain ⟨h5, h6⟩ := insOuter_stab a b _ (a + 1) d rfl hb
  exact ⟨h5, h6, h2, h4⟩
theorem srt_of {d : Array (Int × Int)} (h : SortedIn keyLt 0 d.size d) : Srt d.toList := by
  unfold Srt
  rw [List.pairwise_iff_getElem]
  intro i j hi hj hij
  have := h i j (Nat.zero_le _) hij (by simpa using hj)
  rw [getElem!_pos d j (by simpa using hj), getElem!_pos d i (by simpa using hi)] at this
  simp only [keyLt, decide_eq_false_iff_not] at this
  simp only [Array.getElem_toList]
  omega
end Go.Proofs.Ytekhoanjpnjaeaa
