/- Insertion sort of structs in memory: plain steps. -/
import Derived.Test.YtemeppfikpafbaaGreatSortF
import Derived.Test.YtemeppfikpafbaaGreatInvS
namespace Go.Proofs.YtemeppfikpafbaaGreat
open Go.RowKit Go.Sort
section
variable {α : Type} [Inhabited α] {lt : α → α → Bool}
theorem insInner_no (a j : Nat) (d : Array α) (h : ¬ a < j) : insInner lt a j d = d := by
  cases j with
  | zero => rfl
  | succ j => unfold insInner; rw [if_neg (by simp; omega)]
theorem insInner_stop (a j : Nat) (d : Array α) (h : lt d[j + 1]! d[j]! = false) : insInner lt a (j + 1) d = d := by
  unfold insInner
  rw [if_neg (by simp [h])]
theorem insInner_go (a j : Nat) (d : Array α) (ha : a < j + 1) (h : lt d[j + 1]! d[j]! = true) : insInner lt a (j + 1) d = insInner lt a j (swp d (j + 1) j) := by
  conv => lhs; unfold insInner
  rw [if_pos (by simp [h]; omega)]
theorem insOuter_go (a b i : Nat) (d : Array α) (h : i < b) : insOuter lt a b i d = insOuter lt a b (i + 1) (insInner lt a i d) := by
  conv => lhs; unfold insOuter
  rw [if_pos h]
theorem insOuter_stop (a b i : Nat) (d : Array α) (h : ¬ i < b) : insOuter lt a b i d = d := by
  unfold insOuter
  rw [if_neg h]
theorem insSort_mem {P : α → Prop} {d : Array α} (h : ∀ i, i < d.size → P d[i]!) {i j : Nat} (hi : i < d.size) (hj : j < d.size) : ∀ q, q < (swp d i j).size → P (swp d i j)[q]! := by
  intro q hq
  rw [size_swp] at hq
  unfold swp
  by_cases e1 : q = j
  · subst e1
    have : ((d.setIfInBounds i d[q]!).setIfInBounds q d[i]!)[q]! = d[i]! := by simp [hq]
    rw [this]; exact h i hi
  · by_cases e2 : q = i
    · subst e2
      have : ((d.setIfInBounds q d[j]!).setIfInBounds j d[q]!)[q]! = d[j]! := by simp [hq, Ne.symm e1]
      rw [this]; exact h j hj
    · have : ((d.setIfInBounds i d[j]!).setIfInBounds j d[i]!)[q]! = d[q]! := by simp [hq, Ne.symm e1, Ne.symm e2]
      rw [this]; exact h q hq
theorem HoldC.swap {c : α → List Value} {k : Nat} {w : World} {B off : Nat} {d : Array α} (hc : ∀ x, (c x).length = k) (h : HoldC c k w B off d) {i j : Nat} (hi : i < d.size) (hj : j < d.size) :
    HoldC c k (setC (setC w B (off + i * k) (c d[j]!)) B (off + j * k) (c d[i]!)) B off (swp d i j) :=
  (h.set hc hi d[j]!).set hc (by simpa using hj) d[i]!
theorem HoldC.drew {c : α → List Value} {k : Nat} {w : World} {B off : Nat} {d : Array α} (h : HoldC c k w B off d) : HoldC c k w.drew B off d := h.keep rfl
theorem setC2_grown (w : World) (B o o' : Nat) (u v : List Value) : w.grownBy (setC (setC w B o u) B o' v) (some B) := grownBy_trans (setC_grown w B o u) (setC_grown _ B o' v)
end
theorem setC3 (w : World) (B o : Nat) (u0 u1 u2 : Value) : setC w B o [u0, u1, u2] = ((w.setCell ⟨B, o, none⟩ u0).setCell ⟨B, o + 1, none⟩ u1).setCell ⟨B, o + 2, none⟩ u2 := rfl
theorem setC4 (w : World) (B o : Nat) (u0 u1 u2 u3 : Value) : setC w B o [u0, u1, u2, u3] = (((w.setCell ⟨B, o, none⟩ u0).setCell ⟨B, o + 1, none⟩ u1).setCell ⟨B, o + 2, none⟩ u2).setCell ⟨B, o + 3, none⟩ u3 := rfl
theorem setC5 (w : World) (B o : Nat) (u0 u1 u2 u3 u4 : Value) : setC w B o [u0, u1, u2, u3, u4] = ((((w.setCell ⟨B, o, none⟩ u0).setCell ⟨B, o + 1, none⟩ u1).setCell ⟨B, o + 2, none⟩ u2).setCell ⟨B, o + 3, none⟩ u3).setCell ⟨B, o + 4, none⟩ u4 := rfl
theorem setC6 (w : World) (B o : Nat) (u0 u1 u2 u3 u4 u5 : Value) : setC w B o [u0, u1, u2, u3, u4, u5] = (((((w.setCell ⟨B, o, none⟩ u0).setCell ⟨B, o + 1, none⟩ u1).setCell ⟨B, o + 2, none⟩ u2).setCell ⟨B, o + 3, none⟩ u3).setCell ⟨B, o + 4, none⟩ u4).setCell ⟨B, o + 5, none⟩ u5 := rfl
theorem more_frozen {w w' : World} (h : More w w') {b o : Nat} (hb : b < w.heap.size) {q : Bool} (hf : w.frozen? ⟨b, o, none⟩ = q) : w'.frozen? ⟨b, o, none⟩ = q := (World.frozen?_of_block (w := w) (a := ⟨b, o, none⟩) (h.block hb)).trans hf
end Go.Proofs.YtemeppfikpafbaaGreat
