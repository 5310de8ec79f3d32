/- A drawn region by one invariant, over the frame at its start; boxes that it lays and fills. -/
import Derived.Test.YtemeppfikpafbaaInvR
import Derived.Test.YtemeppfikpafbaaK0
namespace Go.Proofs.Ytemeppfikpafbaa
open Go.RowKit
/-- wp_region_inv, the invariant over the frame at the region's start. -/
theorem wp_region_inv0 {P : Program} {Q : Exit → Act → World → Prop} {id : Nat} {a : Act} {w : World} {l : List Oper} (I : Act → Array Bool → Act → World → Prop) (hm : P.follows .mixedOrders = true) (hb : Region.backward .any l = true)
    (hs : ∀ listed a' w', I a listed a' w' → listed.size = l.length)
    (start : I a (Array.replicate l.length false) a w.drew)
    (steps : InvOps P .any Q l.toArray (I a) 0 l)
    (last : ∀ listed a' w', I a listed a' w' → (∀ j, j < l.length → listed.getD j false = true) → Q .normal a' w') : (Code.region id l.toArray true).wp P Q a w :=
  wp_region_inv (I a) hm hb hs start steps last
theorem InvOp.pass {P : Program} {md : Region.Mode} {Q : Exit → Act → World → Prop} {ops : Array Oper} {I : Array Bool → Act → World → Prop} {i : Nat} {o : Oper} (hg : o.guard = none)
    (h : ∀ (listed : Array Bool) (a : Act) (w : World), I listed a w → listed.getD i true = false → (∀ e ∈ o.after.toList, Region.binds md e = true → listed.getD e.on false = true) → ∀ K : Act → World → Prop, (∀ a w, I (listed.setIfInBounds i true) a w → K a w) → Oper.wp P o a w K Q) : InvOp P md Q ops I i o := by
  intro listed a w hI hl hd K hK
  rw [if_pos (by simp [Region.wanted, hg])]
  exact h listed a w hI hl hd K hK
theorem put_back {a b : Act} {d : Nat} (h : a = b) : a = b.put (some d) (b.tmps.getD d undef) := by
  subst h
  unfold Act.put
  obtain ⟨tm, r⟩ := a
  simp only [Act.mk.injEq, and_true]
  apply Array.ext_getElem?
  intro i
  rw [Array.getElem?_setIfInBounds]
  split
  · rename_i e
    subst e
    split
    · rename_i hl
      rw [Array.getElem?_eq_getElem hl]
      simp
    · rename_i hl
      rw [Array.getElem?_eq_none (by omega)]
  · rfl
/-- A block that the region has laid: a pointer to its head; it holds z, or v when it has been filled. -/
def Box (W : World) (base : Nat) (x : Value) (T : TypeId) (done : Bool) (z v : List Value) : Prop :=
  ∃ B, x = .pointer (some ⟨B, 0, none⟩) ∧ base ≤ B ∧ W.heap[B]? = some (.cells (if done then v else z).toArray T)
theorem Box.keep {W W' : World} {base : Nat} {x : Value} {T : TypeId} {done : Bool} {z v : List Value} (h : Box W base x T done z v) (hm : Lay W W') : Box W' base x T done z v := by
  obtain ⟨B, rfl, hB, hc⟩ := h
  exact ⟨B, rfl, hB, (hm.1.block (Array.getElem?_eq_some_iff.1 hc).1).trans hc⟩
theorem Box.keepM {W W' : World} {base : Nat} {x : Value} {T : TypeId} {done : Bool} {z v : List Value} (h : Box W base x T done z v) (hm : More W W') : Box W' base x T done z v := by
  obtain ⟨B, rfl, hB, hc⟩ := h
  exact ⟨B, rfl, hB, (hm.block (Array.getElem?_eq_some_iff.1 hc).1).trans hc⟩
theorem Box.start {W : World} {base : Nat} (T : TypeId) (z v : List Value) (h : base ≤ W.heap.size) : Box (W.alloc (.cells z.toArray T)) base (.pointer (some ⟨W.heap.size, 0, none⟩)) T false z v :=
  ⟨_, rfl, h, alloc_last _ _⟩
theorem setC_block (w : World) (B o : Nat) (cs : List Value) {k : Nat} (h : k ≠ B) : (setC w B o cs).heap[k]? = w.heap[k]? := by
  induction cs generalizing w o with
  | nil => rfl
  | cons c r ih => rw [setC, ih, Below.heap_setCell _ _ _ _ h]
/-- A store into another box. -/
theorem Box.other {W : World} {base : Nat} {x : Value} {T : TypeId} {done : Bool} {z v : List Value} (h : Box W base x T done z v) {B : Nat} (hx : x ≠ .pointer (some ⟨B, 0, none⟩)) (cs : List Value) : Box (setC W B 0 cs) base x T done z v := by
  obtain ⟨B', rfl, hB, hc⟩ := h
  have : B' ≠ B := fun e => hx (by rw [e])
  exact ⟨B', rfl, hB, (setC_block _ _ _ _ this).trans hc⟩
theorem moreSetC {w w1 : World} (h : More w w1) {B o : Nat} (hB : w.heap.size ≤ B) (cs : List Value) : More w (setC w1 B o cs) := by
  have hg := setC_grown w1 B o cs
  exact ⟨hg.os.trans h.os, hg.tape.trans h.tape, hg.output.trans h.output, Nat.le_trans h.size hg.size, fun k hk _ => by rw [setC_block _ _ _ _ (by omega)]; exact h.block hk⟩
theorem blk_lt {W : World} {B : Nat} {o : Obj} (h : W.heap[B]? = some o) : B < W.heap.size := (Array.getElem?_eq_some_iff.1 h).1
theorem setCell_heap {w : World} {B o : Nat} {v : Value} {arr : Array Value} {ty : TypeId} (h : w.heap[B]? = some (.cells arr ty)) : (w.setCell ⟨B, o, none⟩ v).heap[B]? = some (.cells (arr.setIfInBounds o v) ty) := by
  simp [World.setCell, Array.getElem?_modify, h]
theorem Box.at {W : World} {base : Nat} {x : Value} {T : TypeId} {done : Bool} {z v : List Value} (h : Box W base x T done z v) : ∃ B, x = .pointer (some ⟨B, 0, none⟩) ∧ base ≤ B ∧ W.heap[B]? = some (.cells (if done then v else z).toArray T) := h
theorem Box.lt {W : World} {base : Nat} {x : Value} {T : TypeId} {done : Bool} {z v : List Value} (h : Box W base x T done z v) {n : Nat} (hn : W.heap.size ≤ n) : x ≠ .pointer (some ⟨n, 0, none⟩) := by
  obtain ⟨B, rfl, hB, hc⟩ := h
  have := (Array.getElem?_eq_some_iff.1 hc).1
  intro e; cases e; omega
/-- Behind a base: the worlds since the base may have written to blocks from the base on. -/
theorem Lay.setC {w w1 : World} (h : Lay w w1) {B o : Nat} (hB : w.heap.size ≤ B) (cs : List Value) : Lay w (setC w1 B o cs) := by
  have hg := setC_grown w1 B o cs
  refine ⟨⟨hg.os.trans h.1.os, hg.tape.trans h.1.tape, hg.output.trans h.1.output, Nat.le_trans h.1.size hg.size, fun k hk _ => ?_⟩, ?_⟩
  · rw [setC_block _ _ _ _ (by omega)]; exact h.1.block hk
  · have : (Ytemeppfikpafbaa.setC w1 B o cs).drawn = w1.drawn := by
      induction cs generalizing w1 o with
      | nil => rfl
      | cons c r ih =>
        rw [Ytemeppfikpafbaa.setC]
        have h' : (w1.setCell ⟨B, o, none⟩ c).drawn = w1.drawn := rfl
        rw [← h']
        have hl : Lay w (w1.setCell ⟨B, o, none⟩ c) := ⟨⟨h.1.os, h.1.tape, h.1.output, by have := h.1.size; simp only [World.setCell]; simpa using this, fun k hk hne => by rw [Below.heap_setCell _ _ _ _ (show k ≠ B by omega)]; exact h.1.block hk⟩, h.2⟩
        exact ih hl (setC_grown _ _ _ _)
    rw [this]; exact h.2
end Go.Proofs.Ytemeppfikpafbaa
