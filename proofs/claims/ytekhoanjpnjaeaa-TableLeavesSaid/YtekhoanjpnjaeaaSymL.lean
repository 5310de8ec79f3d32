/- Merging two ascending stretches, in plain words: what the halves of a merge make together. -/
import Derived.Test.YtekhoanjpnjaeaaStab
import Derived.Test.YtekhoanjpnjaeaaRotP
namespace Go.Proofs.Ytekhoanjpnjaeaa
open Go.RowKit Go.Sort

structure Merged (P Q R : List (Int × Int)) : Prop where
  srt : Srt R
  stab : Stab (P ++ Q) R
  len : R.length = P.length + Q.length

theorem srt_le {Q : List (Int × Int)} (h : Srt Q) {i j : Nat} (hij : i ≤ j) (hj : j < Q.length) : (Q[i]'(by omega)).1 ≤ Q[j].1 := by
  rcases Nat.lt_or_eq_of_le hij with h1 | rfl
  · exact List.pairwise_iff_getElem.1 h i j (by omega) hj h1
  · exact Int.le_refl _
theorem take_le {Q : List (Int × Int)} (h : Srt Q) {t : Nat} {k : Int} (ht : t ≤ Q.length) (hb : t = 0 ∨ Q[t - 1]!.1 ≤ k) : ∀ y ∈ Q.take t, y.1 ≤ k := by
  intro y hy
  obtain ⟨n, hn, rfl⟩ := List.mem_iff_getElem.1 hy
  have hn' := hn
  rw [List.length_take] at hn'
  rw [List.getElem_take]
  rcases hb with rfl | hb
  · omega
  · rw [getElem!_pos Q (t - 1) (by omega)] at hb
    exact Int.le_trans (srt_le h (by omega) (by omega)) hb
theorem drop_le {Q : List (Int × Int)} (h : Srt Q) {t : Nat} {k : Int} (hb : t = Q.length ∨ k ≤ Q[t]!.1) : ∀ y ∈ Q.drop t, k ≤ y.1 := by
  intro y hy
  obtain ⟨n, hn, rfl⟩ := List.mem_iff_getElem.1 hy
  have hn' := hn
  rw [List.length_drop] at hn'
  rw [List.getElem_drop]
  rcases hb with rfl | hb
  · omega
  · rw [getElem!_pos Q t (by omega)] at hb
    exact Int.le_trans hb (srt_le h (by omega) (by omega))
theorem stab_cross {P Q : List (Int × Int)} (h : ∀ x ∈ P, ∀ y ∈ Q, y.1 < x.1) : Stab (P ++ Q) (Q ++ P) := fun k => by
  rw [List.filter_append, List.filter_append]
  by_cases hp : ∃ x ∈ P, x.1 = k
  · obtain ⟨x, hx, rfl⟩ := hp
    have : Q.filter (fun y => y.1 == x.1) = [] := List.filter_eq_nil_iff.2 fun y hy => by have := h x hx y hy; simp; omega
    rw [this]; simp
  · have : P.filter (fun y => y.1 == k) = [] := List.filter_eq_nil_iff.2 fun y hy => by
      intro e; exact hp ⟨y, hy, by simpa using e⟩
    rw [this]; simp

theorem Merged.nilL {Q : List (Int × Int)} (h : Srt Q) : Merged [] Q Q := ⟨h, Stab.refl _, by simp⟩
theorem Merged.nilR {P : List (Int × Int)} (h : Srt P) : Merged P [] P := ⟨h, by rw [List.append_nil]; exact Stab.refl _, by simp⟩
theorem Merged.id {P Q : List (Int × Int)} (hP : Srt P) (hQ : Srt Q) (h : ∀ x ∈ P, ∀ y ∈ Q, x.1 ≤ y.1) : Merged P Q (P ++ Q) := ⟨List.pairwise_append.2 ⟨hP, hQ, h⟩, Stab.refl _, by simp⟩
theorem Merged.join {P1 P2 Q1 Q2 R1 R2 : List (Int × Int)} (h1 : Merged P1 Q1 R1) (h2 : Merged P2 Q2 R2) (hP : Srt (P1 ++ P2)) (hQ : Srt (Q1 ++ Q2)) (hl : ∀ x ∈ P1, ∀ y ∈ Q2, x.1 ≤ y.1) (hs : ∀ x ∈ P2, ∀ y ∈ Q1, y.1 < x.1) : Merged (P1 ++ P2) (Q1 ++ Q2) (R1 ++ R2) := by
  refine ⟨List.pairwise_append.2 ⟨h1.srt, h2.srt, fun x hx y hy => ?_⟩, ?_, ?_⟩
  · have hx' := h1.stab.mem hx
    have hy' := h2.stab.mem hy
    rcases List.mem_append.1 hx' with a | a <;> rcases List.mem_append.1 hy' with b | b
    · exact (List.pairwise_append.1 hP).2.2 x a y b
    · exact hl x a y b
    · exact Int.le_of_lt (hs y b x a)
    · exact (List.pairwise_append.1 hQ).2.2 x a y b
  · have e : Stab (P1 ++ P2 ++ (Q1 ++ Q2)) (P1 ++ Q1 ++ (P2 ++ Q2)) := by
      have := (Stab.refl P1).append ((stab_cross hs).append (Stab.refl Q2))
      simpa [List.append_assoc] using this
    exact e.trans (h1.stab.append h2.stab)
  · have := h1.len
    have := h2.len
    simp only [List.length_append]
    omega

theorem at_P (X P Q Z : List (Int × Int)) {a t : Nat} (hX : X.length = a) (ht : t < P.length) : (X ++ P ++ Q ++ Z).toArray[a + t]! = P[t]! := by
  subst hX
  have e : (X ++ P ++ Q ++ Z)[X.length + t]? = P[t]? := by
    rw [List.append_assoc, List.append_assoc, List.getElem?_append_right (by omega), Nat.add_sub_cancel_left, List.getElem?_append_left ht]
  simp only [getElem!_def, List.getElem?_toArray, e]
theorem at_Q (X P Q Z : List (Int × Int)) {m t : Nat} (hX : X.length + P.length = m) (ht : t < Q.length) : (X ++ P ++ Q ++ Z).toArray[m + t]! = Q[t]! := by
  have := at_P (X ++ P) Q Z [] (a := m) (t := t) (by simpa using hX) ht
  simpa using this

/-- The two cuts of a merge. -/
theorem sym_split (X P Q Z : List (Int × Int)) (a m b s e : Nat) (hX : X.length = a) (hP : a + P.length = m) (hQ : m + Q.length = b) (has : a ≤ s) (hsm : s ≤ m) (hme : m ≤ e) (heb : e ≤ b)
    (c1 : s = a ∨ e = b ∨ (X ++ P ++ Q ++ Z).toArray[s - 1]!.1 ≤ (X ++ P ++ Q ++ Z).toArray[e]!.1) (c2 : s = m ∨ e = m ∨ (X ++ P ++ Q ++ Z).toArray[e - 1]!.1 < (X ++ P ++ Q ++ Z).toArray[s]!.1) (hsP : Srt P) (hsQ : Srt Q) :
    ∃ P1 P2 Q1 Q2, P = P1 ++ P2 ∧ Q = Q1 ++ Q2 ∧ a + P1.length = s ∧ m + Q1.length = e ∧ (∀ x ∈ P1, ∀ y ∈ Q2, x.1 ≤ y.1) ∧ (∀ x ∈ P2, ∀ y ∈ Q1, y.1 < x.1) := by
  refine ⟨P.take (s - a), P.drop (s - a), Q.take (e - m), Q.drop (e - m), (List.take_append_drop _ _).symm, (List.take_append_drop _ _).symm, ?_, ?_, ?_, ?_⟩
  · rw [List.length_take]; omega
  · rw [List.length_take]; omega
  · intro x hx y hy
    rcases c1 with h | h | h
    · rw [show s - a = 0 by omega] at hx; simp at hx
    · rw [List.drop_of_length_le (by omega)] at hy; simp at hy
    · by_cases hs : s = a
      · rw [show s - a = 0 by omega] at hx; simp at hx
      by_cases he : e = b
      · rw [List.drop_of_length_le (by omega)] at hy; simp at hy
      have e1 := at_Q X P Q Z (m := m) (t := e - m) (by omega) (by omega)
      have e2 := at_P X P Q Z (a := a) (t := s - a - 1) hX (by omega)
      rw [show m + (e - m) = e by omega] at e1
      rw [show a + (s - a - 1) = s - 1 by omega] at e2
      rw [e1, e2] at h
      have := take_le hsP (t := s - a) (k := P[s - a - 1]!.1) (by omega) (Or.inr (Int.le_refl _)) x hx
      have := drop_le hsQ (t := e - m) (k := Q[e - m]!.1) (Or.inr (Int.le_refl _)) y hy
      omega
  · intro x hx y hy
    rcases c2 with h | h | h
    · rw [List.drop_of_length_le (by omega)] at hx; simp at hx
    · rw [show e - m = 0 by omega] at hy; simp at hy
    · by_cases hs : s = m
      · rw [List.drop_of_length_le (by omega)] at hx; simp at hx
      by_cases he : e = m
      · rw [show e - m = 0 by omega] at hy; simp at hy
      have e1 := at_Q X P Q Z (m := m) (t := e - m - 1) (by omega) (by omega)
      have e2 := at_P X P Q Z (a := a) (t := s - a) hX (by omega)
      rw [show m + (e - m - 1) = e - 1 by omega] at e1
      rw [show a + (s - a) = s by omega] at e2
      rw [e1, e2] at h
      have := drop_le hsP (t := s - a) (k := P[s - a]!.1) (Or.inr (Int.le_refl _)) x hx
      have := take_le hsQ (t := e - m) (k := Q[e - m - 1]!.1) (by omega) (Or.inr (Int.le_refl _)) y hy
      omega
end Go.Proofs.Ytekhoanjpnjaeaa
