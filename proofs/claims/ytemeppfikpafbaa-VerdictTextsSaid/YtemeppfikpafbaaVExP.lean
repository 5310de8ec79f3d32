/- The example of the verdict laws' awake: plain. -/
import Derived.Test.YtemeppfikpafbaaVclT
import Derived.Test.YtemeppfikpafbaaStF
namespace Go.Proofs.Ytemeppfikpafbaa
open Go.RowKit Go.Sort
section
variable {α : Type} [Inhabited α] {lt : α → α → Bool}
theorem ins2 {a b : α} (h : lt b a = false) : insertionSort lt #[a, b] 0 2 = #[a, b] := by
  unfold insertionSort
  rw [insOuter_go 0 2 (0 + 1) _ (by omega), insOuter_stop 0 2 _ _ (by omega)]
  exact insInner_stop 0 0 #[a, b] (by simpa using h)
theorem ins3 {a b c : α} (h1 : lt b a = false) (h2 : lt c b = true) (h3 : lt c a = false) : insertionSort lt #[a, b, c] 0 3 = #[a, c, b] := by
  unfold insertionSort
  rw [insOuter_go 0 3 (0 + 1) _ (by omega), insInner_stop 0 0 #[a, b, c] (by simpa using h1), insOuter_go 0 3 _ _ (by omega), insOuter_stop 0 3 _ _ (by omega)]
  rw [insInner_go 0 1 #[a, b, c] (by omega) (by simpa using h2)]
  have e : swp #[a, b, c] (1 + 1) 1 = #[a, c, b] := by simp [swp]
  rw [e]
  exact insInner_stop 0 0 #[a, c, b] (by simpa using h3)
end
def xC : Cau := ⟨[⟨4, 0, 0, 0⟩], []⟩
def yC : Cau := ⟨[⟨5, 0, 0, 0⟩], []⟩
theorem cmpCau_one (k m : K4) : cmpCau ⟨[k], []⟩ ⟨[m], []⟩ = sgnK k m := by
  have e1 : ∀ k : K4, srtSK [k] = [k] := fun k => by unfold srtSK; exact List.mergeSort_singleton _
  have e2 : srtSM [] = [] := by unfold srtSM; simp
  unfold cmpCau
  dsimp only
  rw [e1, e1, e2]
  have e3 : cmpL sgnK [k] [m] = sgnK k m := by
    unfold cmpL
    rw [if_pos (by simp)]
    unfold firstNZ
    split
    · rename_i h; rw [h]; rfl
    · rfl
  rw [e3]
  split
  · rename_i h; rw [h]; rfl
  · rfl
theorem sgnC_xx : sgnC xC xC = 0 := by unfold sgnC xC; rw [cmpCau_one]; decide
theorem sgnC_yy : sgnC yC yC = 0 := by unfold sgnC yC; rw [cmpCau_one]; decide
theorem sgnC_xy : sgnC xC yC = -1 := by unfold sgnC xC yC; rw [cmpCau_one]; decide
theorem sgnC_yx : sgnC yC xC = 1 := by unfold sgnC xC yC; rw [cmpCau_one, cmpCau_one]; decide
theorem eq_xx : decide (cmpCau xC xC = 0) = true := by unfold xC; rw [cmpCau_one]; decide
theorem eq_xy : decide (cmpCau xC yC = 0) = false := by unfold xC yC; rw [cmpCau_one]; decide
/-- The found causes of the example, sorted. -/
theorem found_ex {a b c : Fnd} (ha : a.c = xC) (hb : b.c = yC) (hc : c.c = xC) : insertionSort (ltOf cfF) #[a, b, c] 0 3 = #[a, c, b] :=
  ins3 (by unfold ltOf cfF; rw [ha, hb, sgnC_yx]; decide) (by unfold ltOf cfF; rw [hb, hc, sgnC_xy]; decide) (by unfold ltOf cfF; rw [ha, hc, sgnC_xx]; decide)
/-- The causes with their statuses, sorted. -/
theorem told_ex {a b : Tld} (hs : a.s = 1) (hs' : b.s = 2) : insertionSort (ltOf cfT) #[a, b] 0 2 = #[a, b] :=
  ins2 (by
    unfold ltOf cfT
    rw [hs, hs', show cmpI 2 1 = 1 by decide]
    generalize cmpI _ _ = p
    generalize sgnC _ _ = q
    rfl)
end Go.Proofs.Ytemeppfikpafbaa
