/- slices.SortFunc at a row of the call's own, of structs of k cells: the shelf's contract in this seat's words. -/
import Derived.Shelf.SlSortCmp.NoneTotal
import Derived.Test.YtemeppfikpafbaaK0
namespace Go.Proofs.Ytemeppfikpafbaa
open Go.RowKit Go.Sort Go.Shelf Go.Lib
theorem Lay.grow {w w' : World} (h : Lay w w') : ∃ q os, w' = grow (w.drewN q) os := by
  obtain ⟨⟨h1, h2, h3, h4, h5⟩, hd⟩ := h
  refine ⟨w'.drawn - w.drawn, w'.heap.extract w.heap.size w'.heap.size, ?_⟩
  obtain ⟨heap, tape, drawn, os, output⟩ := w
  obtain ⟨heap', tape', drawn', os', output'⟩ := w'
  simp only at h1 h2 h3 h4 h5 hd
  subst h1 h2 h3
  unfold Sort.grow World.drewN
  simp only [World.mk.injEq, true_and, and_true]
  refine ⟨?_, by omega⟩
  apply Array.ext_getElem?
  intro i
  by_cases hi : i < heap.size
  · rw [Array.getElem?_append_left hi]; exact h5 i hi (by simp)
  · rw [Array.getElem?_append_right (by omega), Array.getElem?_extract]
    by_cases hi' : i < heap'.size
    · rw [if_pos (by omega), show heap.size + (i - heap.size) = i by omega]
    · rw [if_neg (by omega), Array.getElem?_eq_none (by omega)]
section
variable {α : Type} [Inhabited α] {enc : α → List Value} {k : Nat}
theorem flatK_list (hk : ∀ x, (enc x).length = k) (hk0 : 0 < k) (l : List α) : (flatK enc k l.toArray).toList = flatC enc l := by
  apply List.ext_getElem?
  intro t
  by_cases ht : t < l.length * k
  · have hq : t / k < l.length := (Nat.div_lt_iff_lt_mul hk0).2 ht
    have hr : t % k < k := Nat.mod_lt _ hk0
    have hu : (enc l[t / k])[t % k]? = some ((enc l[t / k])[t % k]'(by rw [hk]; exact hr)) := List.getElem?_eq_getElem _
    have h1 := flatC_get hk l (t / k) hq (t % k) _ hu
    rw [Nat.div_add_mod'] at h1
    rw [h1, Array.getElem?_toList, Array.getElem?_eq_getElem (by simpa using ht)]
    have h2 := get_flatK enc k l.toArray t (by simpa using ht)
    rw [getElem!_pos _ t (by simpa using ht)] at h2
    rw [h2]
    have e1 : l.toArray[t / k]! = l[t / k] := by rw [getElem!_pos _ _ (by simpa using hq)]; simp
    rw [e1]
    congr 1
    exact getElem!_pos _ _ (by rw [hk]; exact hr)
  · rw [List.getElem?_eq_none (by simp; omega), List.getElem?_eq_none (by rw [flatC_len hk]; omega)]
theorem holdsK_of {w : World} {g : Nat} {cur : Array Value} {e : TypeId} {l : List α} (hk : ∀ x, (enc x).length = k) (hk0 : 0 < k) (hb : w.heap[g]? = some (.cells cur e (0, 0))) (ht : cur.toList.take (l.length * k) = flatC enc l) : HoldsK enc k w g 0 l.toArray := by
  intro j hj
  have hj' : j < l.length * k := by simpa using hj
  refine ⟨?_, by simp [World.frozen?, hb]⟩
  have h1 : (cur.toList.take (l.length * k))[j]? = (flatC enc l)[j]? := by rw [ht]
  rw [List.getElem?_take_of_lt hj', ← flatK_list hk hk0] at h1
  simp only [World.cell?, hb, Nat.zero_add]
  simp only [Option.isSome_none, Bool.false_eq_true, if_false]
  rw [← Array.getElem?_toList, h1, Array.getElem?_toList, Array.getElem?_eq_getElem hj, getElem!_pos _ j hj]
  rfl
theorem heapK_sorted {w : World} {g n : Nat} {os : Array Obj} {cur : Array Value} {e : TypeId} {fr : Nat × Nat} (d : Array Value) (hb : w.heap[g]? = some (.cells cur e fr)) :
    (Sort.grow (putRow id (Sort.ahead w n) g 0 d) os).heap[g]? = some (.cells (putCells id 0 d cur) e fr) := by
  have hg : g < w.heap.size := (Array.getElem?_eq_some_iff.1 hb).1
  rw [heap_grow_old _ _ (by simpa using hg)]
  simp [putRow, mapBlock, Sort.ahead, Array.getElem?_modify, hb, onCells]
theorem grownK_sorted {w : World} {g n : Nat} {os : Array Obj} (d : Array Value) : w.grownBy (Sort.grow (putRow id (Sort.ahead w n) g 0 d) os) (some g) := by
  refine ⟨rfl, rfl, rfl, by simp, fun k hk hne => ?_⟩
  rw [heap_grow_old _ _ (by simpa using hk)]
  have : g ≠ k := fun e => hne (by rw [e])
  simp [putRow, mapBlock, Sort.ahead, Array.getElem?_modify, this]
theorem takeK_put (cur : Array Value) (d : Array Value) (h : d.size ≤ cur.size) : (putCells id 0 d cur).toList.take d.size = d.toList := by
  apply List.ext_getElem?
  intro j
  by_cases hj : j < d.size
  · rw [List.getElem?_take_of_lt hj, Array.getElem?_toList]
    simp [putCells, hj, show j < cur.size by omega]
  · rw [List.getElem?_take_eq_none (by omega), List.getElem?_eq_none (by simp; omega)]
variable {ρ : Ren}
/-- The comparison, in whatever world. -/
def CmpSaid (g : Nat) (enc : α → List Value) (cf : α → α → Int) : Prop := ∀ (x y : α) (W : World), Calls Try.prog g #[.agg (enc x).toArray, .agg (enc y).toArray] W fun e w' => e = .returned (.int .i64 (cf x y)) ∧ Lay W w'
/-- WHAT THE ROW HOLDS BEHIND slices.SortFunc, under a comparison that parts whatever two that are not one. -/
theorem sortF (L : SlLaysF0.n6 Try.prog ρ) (aE : ∀ w, (isAgg (ρ.t 24)).run Try.prog w = .ok true w) (zE : ∀ w, (Go.sizeOf (ρ.t 24)).run Try.prog w = .ok k w) (hk : ∀ x, (enc x).length = k) (hk0 : 0 < k) (h1 : ∀ x, ∀ v ∈ enc x, v.oneCell' = true) (cf : α → α → Int) (hO : SWO (ltOf cf)) (hT : ∀ x y, (ltOf cf) x y = false → (ltOf cf) y x = false → x = y) (g : Nat)
    (eg : ∀ args w, (callFunc g args).run Try.prog w = .ok (.enter g args) w) (hcmp : CmpSaid g enc cf) (l : List α) (v : Value) (B : Nat) (E : TypeId) (w : World) (hl : l.length < 4611686018427387904) (hown : w.ownsRow B E k v l.length (flatC enc l)) :
    Calls Try.prog (ρ.f 6) #[v, .func (.func g) #[] #[]] w fun e w' => e = .returned (.tuple #[]) ∧ w.grownBy w' v.ownBlock ∧ w'.ownsRow B E k v l.length (flatC enc (l.mergeSort fun x y => !(ltOf cf) y x)) := by
  obtain ⟨hlen, h0 | ⟨b, cap, cur, rfl, hB, hb, hnc, hcm, hcs, ht⟩⟩ := hown
  · obtain ⟨rfl, hn⟩ := h0
    obtain rfl : l = [] := List.eq_nil_of_length_eq_zero hn
    refine (AnyF.slices_SortFunc_none (P := Try.prog) (ρ := ρ) L none 0 _ w).mono ?_
    rintro e w' ⟨rfl, rfl⟩
    exact ⟨rfl, World.grownBy.refl _ _, by simp [flatC]; exact World.ownsRow_nil _ _ _ _⟩
  · have ht' : cur.toList.take (l.length * k) = flatC enc l := ht
    have hH := holdsK_of hk hk0 hb ht'
    have hblk : b < w.heap.size := (Array.getElem?_eq_some_iff.1 hb).1
    have hC : CmpLays Try.prog g #[] enc k cf b 0 l.toArray.size w := fun m os dk _ x y => by
      refine (hcmp x y _).mono ?_
      rintro e w' ⟨he, hlay⟩
      exact ⟨he, hlay.grow⟩
    have h := AnyQ.slices_SortFunc_total L k aE zE enc hk h1 cf hO g #[] b 0 cap l.toArray w eg hC hH hblk (by simpa using hl) hT
    rw [List.size_toArray] at h
    refine h.mono ?_
    rintro e w' ⟨rfl, n, os, rfl⟩
    have hms : (l.mergeSort fun x y => !(ltOf cf) y x).length = l.length := List.length_mergeSort _
    refine ⟨rfl, grownK_sorted _, ⟨by rw [flatC_len hk, hms], Or.inr ⟨b, cap, _, rfl, hB, heapK_sorted _ hb, hnc, hcm, by simpa [putCells] using hcs, ?_⟩⟩⟩
    have hfs : (flatK enc k (l.mergeSort fun x y => !(ltOf cf) y x).toArray).size = l.length * k := by simp [hms]
    have := takeK_put cur (flatK enc k (l.mergeSort fun x y => !(ltOf cf) y x).toArray) (by rw [hfs, hcs]; exact Nat.mul_le_mul_right _ hnc)
    rw [hfs, flatK_list hk hk0] at this
    exact this
end
end Go.Proofs.Ytemeppfikpafbaa
