/- Texts Small, laid together. -/
import Derived.Test.YtekhoanjpnjaeaaNk
import Derived.Test.YtekhoanjpnjaeaaNn
/- rootcauselaw10.small (50). -/
namespace Go.Proofs.Ytekhoanjpnjaeaa
open Go.RowKit

/-- A struct of the call's own whose fourth field is a slice that grows by append. -/
structure OutInv (T E : TypeId) (w : World) (c1 c2 c3 : Value) (now : Int) (xs : List Value) (wr : World) : Prop where
  below : Below w.heap.size w wr
  size : w.heap.size + 1 + 1 + 1 ≤ wr.heap.size
  res : wr.heap[w.heap.size + 1]? = some (.cells #[.slice none 0 0, .slice none 0 0, .slice none 0 0, .slice none 0 0, .int .i64 0] T)
  out : ∃ ov, wr.heap[w.heap.size + 1 + 1]? = some (.cells #[c1, c2, c3, ov, .int .i64 now] T) ∧ wr.ownsRow (w.heap.size + 1 + 1 + 1) E 1 ov xs.length xs
theorem OutInv.step {T E : TypeId} {w wr w1 w2 : World} {c1 c2 c3 ov ov' x : Value} {now : Int} {xs : List Value} {o : Obj} (hI : OutInv T E w c1 c2 c3 now xs wr)
    (hov : wr.heap[w.heap.size + 1 + 1]? = some (.cells #[c1, c2, c3, ov, .int .i64 now] T)) (h1 : More wr w1) (hg : (w1.alloc o).grownBy w2 ov.ownBlock) (ho : w2.ownsRow (w.heap.size + 1 + 1 + 1) E 1 ov' (xs.length + 1) (xs ++ [x]))
    (hon : ∀ y, ov.ownBlock = some y → w.heap.size + 1 + 1 + 1 ≤ y) (hon' : ∀ y, ov'.ownBlock = some y → w.heap.size + 1 + 1 + 1 ≤ y) : OutInv T E w c1 c2 c3 now (xs ++ [x]) (w2.setCell ⟨w.heap.size + 1 + 1, 3, none⟩ ov') := by
  have hs := hI.size
  have hs1 := h1.size
  have hs2 := hg.size
  rw [World.size_alloc] at hs2
  have e2 : ∀ y, y < w.heap.size + 1 + 1 + 1 → w2.heap[y]? = wr.heap[y]? := by
    intro y hy
    rw [hg.block y (by rw [World.size_alloc]; omega) (fun e => by have := hon y e.symm; omega), Below.heap_alloc _ _ _ (by omega)]
    exact h1.block (by omega)
  refine ⟨⟨hg.os.trans (h1.os.trans hI.below.os), hg.tape.trans (h1.tape.trans hI.below.tape), hg.output.trans (h1.output.trans hI.below.output), by have := hI.below.size; simp [World.setCell]; omega, fun y hy => ?_⟩, by simp [World.setCell]; omega, ?_, ov', ?_, ?_⟩
  · rw [Below.heap_setCell _ _ _ _ (by simp; omega), e2 y (by omega)]; exact hI.below.block y hy
  · rw [Below.heap_setCell _ _ _ _ (by simp), e2 _ (by omega)]; exact hI.res
  · exact heap_setCell_same _ _ _ _ _ _ ((e2 _ (by omega)).trans hov)
  · rw [List.length_append]
    exact owns_keep ho (fun y hy => Below.heap_setCell _ _ _ _ (by have := hon' y hy; simp; omega))
theorem OutInv.start (T E : TypeId) (w : World) (o : Obj) (c1 c2 c3 : Value) (now : Int) : OutInv T E w c1 c2 c3 now [] (((w.alloc o).alloc (.cells #[.slice none 0 0, .slice none 0 0, .slice none 0 0, .slice none 0 0, .int .i64 0] T)).alloc (.cells #[c1, c2, c3, .slice none 0 0, .int .i64 now] T)) := by
  refine ⟨(((Below.refl _ _).alloc (Nat.le_refl _) _).alloc (by simp) _).alloc (by simp; omega) _, by simp, ?_, _, alloc_at _ _ (by simp), ⟨rfl, Or.inl ⟨rfl, rfl⟩⟩⟩
  rw [Below.heap_alloc _ _ _ (by simp)]; exact alloc_at _ _ (by simp)
theorem OutInv.drew {T E : TypeId} {w wr : World} {c1 c2 c3 : Value} {now : Int} {xs : List Value} (h : OutInv T E w c1 c2 c3 now xs wr) (n : Nat) : OutInv T E w c1 c2 c3 now xs (wr.drewN n) :=
  ⟨h.below.trans (below_drewN _ _ _), h.size, h.res, h.out⟩

end Go.Proofs.Ytekhoanjpnjaeaa

