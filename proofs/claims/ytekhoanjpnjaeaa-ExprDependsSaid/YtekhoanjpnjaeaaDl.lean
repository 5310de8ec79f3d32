/- Texts DepE, ShelfM, Coll, Reads54, Awake, RefTab, laid together. -/
import Derived.Lib.Hide
import Derived.Shelf.SlGeneric
import Derived.Shelf.SlIter.Nil
import Derived.Shelf.SortM.Plain
import Derived.Shelf.SortM.SortNone
import Derived.Ground.GgzProg
import Derived.Ground.SlgmProg
import Derived.Test.YtekhoanjpnjaeaaProg
import Derived.Deep.DeepCutAuto
import Derived.Test.YtekhoanjpnjaeaaDc
import Derived.Test.YtekhoanjpnjaeaaDd
import Derived.Test.YtekhoanjpnjaeaaDi
import Derived.Test.YtekhoanjpnjaeaaDj
import Derived.Test.YtekhoanjpnjaeaaDk
/- An environment of expressions that is being laid: its box, its four rows, the tables; slices.Clone at strings, numbers and tables. -/
namespace Go.Proofs.Ytekhoanjpnjaeaa
open Go.RowKit
def NilD (v : Value) : Prop := ∀ a n cap, v = .slice a n cap → a = none → cap = 0
theorem more_allocD (w : World) (o : Obj) : More w (w.alloc o) := World.grownBy_alloc w o none
theorem owns_baseD {w : World} {B B' : Nat} {e : TypeId} {n size : Nat} {v : Value} {xs : List Value} (h : w.ownsRow B e size v n xs) (hB : B' ≤ B) : w.ownsRow B' e size v n xs := by
  obtain ⟨hl, h | ⟨g, cap, cur, rfl, hg, r⟩⟩ := h
  · exact ⟨hl, Or.inl h⟩
  · exact ⟨hl, Or.inr ⟨g, cap, cur, rfl, Nat.le_trans hB hg, r⟩⟩
theorem blk_ltD {W : World} {B : Nat} {o : Obj} (h : W.heap[B]? = some o) : B < W.heap.size := (Array.getElem?_eq_some_iff.1 h).1
theorem setCell_heapD {w : World} {B o : Nat} {v : Value} {arr : Array Value} {ty : TypeId} (h : w.heap[B]? = some (.cells arr ty)) : (w.setCell ⟨B, o, none⟩ v).heap[B]? = some (.cells (arr.setIfInBounds o v) ty) := by
  simp [World.setCell, Array.getElem?_modify, h]
theorem owns_blk {W : World} {B : Nat} {e : TypeId} {n size z : Nat} {v : Value} {xs : List Value} (h : W.ownsRow B e size v n xs) (hz : v.ownBlock = some z) : ∃ cur, W.heap[z]? = some (.cells cur e (0, 0)) := by
  rcases h.2 with ⟨rfl, _⟩ | ⟨g, cap, cur, rfl, _, hg, _⟩
  · cases hz
  · have e1 : g = z := by injection hz
    subst e1
    exact ⟨cur, hg⟩
theorem owns_ne {W : World} {B B' : Nat} {e e' : TypeId} {n n' size size' z : Nat} {v v' : Value} {xs xs' : List Value} (h : W.ownsRow B e size v n xs) (h' : W.ownsRow B' e' size' v' n' xs') (he : e ≠ e') (hz : v.ownBlock = some z) : v'.ownBlock ≠ some z := fun hz' => by
  obtain ⟨c, h1⟩ := owns_blk h hz
  obtain ⟨c', h2⟩ := owns_blk h' hz'
  rw [h1] at h2
  injection h2 with h2
  injection h2 with _ h3 _
  exact he h3
/-- The blocks in which a table may lie. -/
def TB (EB : Nat) (nv vv tv bv : Value) (b : Nat) : Prop := b ≠ EB ∧ nv.ownBlock ≠ some b ∧ vv.ownBlock ≠ some b ∧ tv.ownBlock ≠ some b ∧ bv.ownBlock ≠ some b
structure EnvB (EB : Nat) (w5 W : World) (cs : Array Value) (nv vv tv bv : Value) (ns vs ts bs : List Value) (tb : List (List (Int × Int))) : Prop where
  low : Below EB w5 W
  box : W.heap[EB]? = some (.cells cs 97)
  on : W.ownsRow (EB + 1) 9 1 nv ns.length ns
  ov : W.ownsRow (EB + 1) 2 1 vv vs.length vs
  ot : W.ownsRow (EB + 1) 9 1 tv ts.length ts
  ob : W.ownsRow (EB + 1) 54 1 bv bs.length bs
  ne : ∀ z, nv.ownBlock = some z → tv.ownBlock ≠ some z
  tl : bs.length = tb.length
  tr : ∀ i (h : i < tb.length), ∃ x, bs[i]? = some x ∧ Row (TB EB nv vv tv bv) W 2 tb[i].length x (flat2 tb[i])
section
variable {EB : Nat} {w5 W W' : World} {cs : Array Value} {nv vv tv bv : Value} {ns vs ts bs : List Value} {tb : List (List (Int × Int))}
theorem EnvB.ns' (h : EnvB EB w5 W cs nv vv tv bv ns vs ts bs tb) : EB + 1 ≤ W.heap.size := blk_ltD h.box
theorem EnvB.more (h : EnvB EB w5 W cs nv vv tv bv ns vs ts bs tb) (hm : More W W') : EnvB EB w5 W' cs nv vv tv bv ns vs ts bs tb :=
  ⟨h.low.trans (hm.below.mono (by have := h.ns'; omega)), (hm.block (blk_ltD h.box)).trans h.box, owns_keep h.on (fun z hz => hm.block (h.on.lt z hz).2), owns_keep h.ov (fun z hz => hm.block (h.ov.lt z hz).2), owns_keep h.ot (fun z hz => hm.block (h.ot.lt z hz).2), owns_keep h.ob (fun z hz => hm.block (h.ob.lt z hz).2), h.ne, h.tl, fun i hi => by
    obtain ⟨x, h1, h2⟩ := h.tr i hi
    exact ⟨x, h1, h2.mono (fun _ k => k) (fun b off u _ hc => hm.cell hc)⟩⟩
theorem EnvB.store (h : EnvB EB w5 W cs nv vv tv bv ns vs ts bs tb) (k : Nat) (u : Value) : EnvB EB w5 (W.setCell ⟨EB, k, none⟩ u) (cs.setIfInBounds k u) nv vv tv bv ns vs ts bs tb := by
  have hk : ∀ b, b ≠ EB → (W.setCell ⟨EB, k, none⟩ u).heap[b]? = W.heap[b]? := fun b hb => Below.heap_setCell _ _ _ _ hb
  exact ⟨h.low.setCell (Nat.le_refl _) _, setCell_heapD h.box, owns_keep h.on (fun z hz => hk z (by have := (h.on.lt z hz).1; omega)), owns_keep h.ov (fun z hz => hk z (by have := (h.ov.lt z hz).1; omega)), owns_keep h.ot (fun z hz => hk z (by have := (h.ot.lt z hz).1; omega)), owns_keep h.ob (fun z hz => hk z (by have := (h.ob.lt z hz).1; omega)), h.ne, h.tl, fun i hi => by
    obtain ⟨x, h1, h2⟩ := h.tr i hi
    exact ⟨x, h1, h2.mono (fun _ k => k) (fun b off u hb hc => by rw [World.cell?_of_block (a := ⟨b, off, none⟩) (hk b hb.1)]; exact hc)⟩⟩
theorem EnvB.start (hb : Below EB w5 W) (hx : W.heap[EB]? = some (.cells cs 97)) : EnvB EB w5 W cs (.slice none 0 0) (.slice none 0 0) (.slice none 0 0) (.slice none 0 0) [] [] [] [] [] :=
  ⟨hb, hx, World.ownsRow_nil _ _ _ _, World.ownsRow_nil _ _ _ _, World.ownsRow_nil _ _ _ _, World.ownsRow_nil _ _ _ _, fun z hz => (by cases hz), rfl, fun i hi => (by cases hi)⟩
theorem EnvB.growN (h : EnvB EB w5 W cs nv vv tv bv ns vs ts bs tb) {q : Value} {ns' : List Value} (ho : W'.ownsRow (EB + 1) 9 1 q ns'.length ns') (hg : W.grownBy W' nv.ownBlock) (hl : ∀ z, q.ownBlock = some z → nv.ownBlock = some z ∨ z = W.heap.size) : EnvB EB w5 W' cs q vv tv bv ns' vs ts bs tb := by
  have hk : ∀ b, b < W.heap.size → nv.ownBlock ≠ some b → W'.heap[b]? = W.heap[b]? := fun b hb hn => hg.block b hb (fun e => hn e.symm)
  have hq : ∀ z, q.ownBlock = some z → nv.ownBlock = some z ∨ z = W.heap.size := hl
  have hlow : Below EB w5 W' := h.low.grown hg (by have := h.ns'; omega) (fun z hz => by have := (h.on.lt z hz).1; omega)
  refine ⟨hlow, (hk EB (by have := h.ns'; omega) (fun e => by have := (h.on.lt EB e).1; omega)).trans h.box, ho, owns_keep h.ov (fun z hz => hk z (h.ov.lt z hz).2 (owns_ne h.ov h.on (by decide) hz)), owns_keep h.ot (fun z hz => hk z (h.ot.lt z hz).2 (fun e => h.ne z e hz)), owns_keep h.ob (fun z hz => hk z (h.ob.lt z hz).2 (owns_ne h.ob h.on (by decide) hz)), fun z hz ht => by
    rcases hq z hz with e | e
    · exact h.ne z e ht
    · have := (h.ot.lt z ht).2; omega, h.tl, fun i hi => ?_⟩
  obtain ⟨x, h1, h2⟩ := h.tr i hi
  refine ⟨x, h1, h2.mono2 (by omega) (fun b off u hb hc => ⟨⟨hb.1, (fun e => by
    rcases hq b e with e | e
    · exact hb.2.1 e
    · have := World.block_lt_of_cell? W ⟨b, off, none⟩ hc; dsimp only at this; omega), hb.2.2.1, hb.2.2.2.1, hb.2.2.2.2⟩, ?_⟩)⟩
  rw [World.cell?_of_block (a := ⟨b, off, none⟩) (hk b (World.block_lt_of_cell? W ⟨b, off, none⟩ hc) hb.2.1)]
  exact hc
theorem EnvB.newN (h : EnvB EB w5 W cs nv vv tv bv ns vs ts bs tb) {q : Value} {ns' : List Value} (hm : More W W') (ho : W'.ownsRow W.heap.size 9 1 q ns'.length ns') : EnvB EB w5 W' cs q vv tv bv ns' vs ts bs tb := by
  have hk : ∀ b, b < W.heap.size → nv.ownBlock ≠ some b → W'.heap[b]? = W.heap[b]? := fun b hb _ => hm.block hb
  have hq : ∀ z, q.ownBlock = some z → nv.ownBlock = some z ∨ W.heap.size ≤ z := fun z hz => Or.inr (ho.lt z hz).1
  have hlow : Below EB w5 W' := h.low.trans (hm.below.mono (by have := h.ns'; omega))
  refine ⟨hlow, (hk EB (by have := h.ns'; omega) (fun e => by have := (h.on.lt EB e).1; omega)).trans h.box, owns_baseD ho (by have := h.ns'; omega), owns_keep h.ov (fun z hz => hm.block (h.ov.lt z hz).2), owns_keep h.ot (fun z hz => hm.block (h.ot.lt z hz).2), owns_keep h.ob (fun z hz => hm.block (h.ob.lt z hz).2), fun z hz ht => by
    rcases hq z hz with e | e
    · exact h.ne z e ht
    · have := (h.ot.lt z ht).2; omega, h.tl, fun i hi => ?_⟩
  obtain ⟨x, h1, h2⟩ := h.tr i hi
  refine ⟨x, h1, h2.mono2 (by omega) (fun b off u hb hc => ⟨⟨hb.1, (fun e => by
    rcases hq b e with e | e
    · exact hb.2.1 e
    · have := World.block_lt_of_cell? W ⟨b, off, none⟩ hc; dsimp only at this; omega), hb.2.2.1, hb.2.2.2.1, hb.2.2.2.2⟩, ?_⟩)⟩
  rw [World.cell?_of_block (a := ⟨b, off, none⟩) (hk b (World.block_lt_of_cell? W ⟨b, off, none⟩ hc) hb.2.1)]
  exact hc
theorem EnvB.growV (h : EnvB EB w5 W cs nv vv tv bv ns vs ts bs tb) {q : Value} {vs' : List Value} (ho : W'.ownsRow (EB + 1) 2 1 q vs'.length vs') (hg : W.grownBy W' vv.ownBlock) (hl : ∀ z, q.ownBlock = some z → vv.ownBlock = some z ∨ z = W.heap.size) : EnvB EB w5 W' cs nv q tv bv ns vs' ts bs tb := by
  have hk : ∀ b, b < W.heap.size → vv.ownBlock ≠ some b → W'.heap[b]? = W.heap[b]? := fun b hb hn => hg.block b hb (fun e => hn e.symm)
  have hq : ∀ z, q.ownBlock = some z → vv.ownBlock = some z ∨ z = W.heap.size := hl
  have hlow : Below EB w5 W' := h.low.grown hg (by have := h.ns'; omega) (fun z hz => by have := (h.ov.lt z hz).1; omega)
  refine ⟨hlow, (hk EB (by have := h.ns'; omega) (fun e => by have := (h.ov.lt EB e).1; omega)).trans h.box, owns_keep h.on (fun z hz => hk z (h.on.lt z hz).2 (owns_ne h.on h.ov (by decide) hz)), ho, owns_keep h.ot (fun z hz => hk z (h.ot.lt z hz).2 (owns_ne h.ot h.ov (by decide) hz)), owns_keep h.ob (fun z hz => hk z (h.ob.lt z hz).2 (owns_ne h.ob h.ov (by decide) hz)), h.ne, h.tl, fun i hi => ?_⟩
  obtain ⟨x, h1, h2⟩ := h.tr i hi
  refine ⟨x, h1, h2.mono2 (by omega) (fun b off u hb hc => ⟨⟨hb.1, hb.2.1, (fun e => by
    rcases hq b e with e | e
    · exact hb.2.2.1 e
    · have := World.block_lt_of_cell? W ⟨b, off, none⟩ hc; dsimp only at this; omega), hb.2.2.2.1, hb.2.2.2.2⟩, ?_⟩)⟩
  rw [World.cell?_of_block (a := ⟨b, off, none⟩) (hk b (World.block_lt_of_cell? W ⟨b, off, none⟩ hc) hb.2.2.1)]
  exact hc
theorem EnvB.newV (h : EnvB EB w5 W cs nv vv tv bv ns vs ts bs tb) {q : Value} {vs' : List Value} (hm : More W W') (ho : W'.ownsRow W.heap.size 2 1 q vs'.length vs') : EnvB EB w5 W' cs nv q tv bv ns vs' ts bs tb := by
  have hk : ∀ b, b < W.heap.size → vv.ownBlock ≠ some b → W'.heap[b]? = W.heap[b]? := fun b hb _ => hm.block hb
  have hq : ∀ z, q.ownBlock = some z → vv.ownBlock = some z ∨ W.heap.size ≤ z := fun z hz => Or.inr (ho.lt z hz).1
  have hlow : Below EB w5 W' := h.low.trans (hm.below.mono (by have := h.ns'; omega))
  refine ⟨hlow, (hk EB (by have := h.ns'; omega) (fun e => by have := (h.ov.lt EB e).1; omega)).trans h.box, owns_keep h.on (fun z hz => hm.block (h.on.lt z hz).2), owns_baseD ho (by have := h.ns'; omega), owns_keep h.ot (fun z hz => hm.block (h.ot.lt z hz).2), owns_keep h.ob (fun z hz => hm.block (h.ob.lt z hz).2), h.ne, h.tl, fun i hi => ?_⟩
  obtain ⟨x, h1, h2⟩ := h.tr i hi
  refine ⟨x, h1, h2.mono2 (by omega) (fun b off u hb hc => ⟨⟨hb.1, hb.2.1, (fun e => by
    rcases hq b e with e | e
    · exact hb.2.2.1 e
    · have := World.block_lt_of_cell? W ⟨b, off, none⟩ hc; dsimp only at this; omega), hb.2.2.2.1, hb.2.2.2.2⟩, ?_⟩)⟩
  rw [World.cell?_of_block (a := ⟨b, off, none⟩) (hk b (World.block_lt_of_cell? W ⟨b, off, none⟩ hc) hb.2.2.1)]
  exact hc
theorem EnvB.growT (h : EnvB EB w5 W cs nv vv tv bv ns vs ts bs tb) {q : Value} {ts' : List Value} (ho : W'.ownsRow (EB + 1) 9 1 q ts'.length ts') (hg : W.grownBy W' tv.ownBlock) (hl : ∀ z, q.ownBlock = some z → tv.ownBlock = some z ∨ z = W.heap.size) : EnvB EB w5 W' cs nv vv q bv ns vs ts' bs tb := by
  have hk : ∀ b, b < W.heap.size → tv.ownBlock ≠ some b → W'.heap[b]? = W.heap[b]? := fun b hb hn => hg.block b hb (fun e => hn e.symm)
  have hq : ∀ z, q.ownBlock = some z → tv.ownBlock = some z ∨ z = W.heap.size := hl
  have hlow : Below EB w5 W' := h.low.grown hg (by have := h.ns'; omega) (fun z hz => by have := (h.ot.lt z hz).1; omega)
  refine ⟨hlow, (hk EB (by have := h.ns'; omega) (fun e => by have := (h.ot.lt EB e).1; omega)).trans h.box, owns_keep h.on (fun z hz => hk z (h.on.lt z hz).2 (fun e => h.ne z hz e)), owns_keep h.ov (fun z hz => hk z (h.ov.lt z hz).2 (owns_ne h.ov h.ot (by decide) hz)), ho, owns_keep h.ob (fun z hz => hk z (h.ob.lt z hz).2 (owns_ne h.ob h.ot (by decide) hz)), fun z hz ht => by
    rcases hq z ht with e | e
    · exact h.ne z hz e
    · have := (h.on.lt z hz).2; omega, h.tl, fun i hi => ?_⟩
  obtain ⟨x, h1, h2⟩ := h.tr i hi
  refine ⟨x, h1, h2.mono2 (by omega) (fun b off u hb hc => ⟨⟨hb.1, hb.2.1, hb.2.2.1, (fun e => by
    rcases hq b e with e | e
    · exact hb.2.2.2.1 e
    · have := World.block_lt_of_cell? W ⟨b, off, none⟩ hc; dsimp only at this; omega), hb.2.2.2.2⟩, ?_⟩)⟩
  rw [World.cell?_of_block (a := ⟨b, off, none⟩) (hk b (World.block_lt_of_cell? W ⟨b, off, none⟩ hc) hb.2.2.2.1)]
  exact hc
theorem EnvB.newT (h : EnvB EB w5 W cs nv vv tv bv ns vs ts bs tb) {q : Value} {ts' : List Value} (hm : More W W') (ho : W'.ownsRow W.heap.size 9 1 q ts'.length ts') : EnvB EB w5 W' cs nv vv q bv ns vs ts' bs tb := by
  have hk : ∀ b, b < W.heap.size → tv.ownBlock ≠ some b → W'.heap[b]? = W.heap[b]? := fun b hb _ => hm.block hb
  have hq : ∀ z, q.ownBlock = some z → tv.ownBlock = some z ∨ W.heap.size ≤ z := fun z hz => Or.inr (ho.lt z hz).1
  have hlow : Below EB w5 W' := h.low.trans (hm.below.mono (by have := h.ns'; omega))
  refine ⟨hlow, (hk EB (by have := h.ns'; omega) (fun e => by have := (h.ot.lt EB e).1; omega)).trans h.box, owns_keep h.on (fun z hz => hm.block (h.on.lt z hz).2), owns_keep h.ov (fun z hz => hm.block (h.ov.lt z hz).2), owns_baseD ho (by have := h.ns'; omega), owns_keep h.ob (fun z hz => hm.block (h.ob.lt z hz).2), fun z hz ht => by
    rcases hq z ht with e | e
    · exact h.ne z hz e
    · have := (h.on.lt z hz).2; omega, h.tl, fun i hi => ?_⟩
  obtain ⟨x, h1, h2⟩ := h.tr i hi
  refine ⟨x, h1, h2.mono2 (by omega) (fun b off u hb hc => ⟨⟨hb.1, hb.2.1, hb.2.2.1, (fun e => by
    rcases hq b e with e | e
    · exact hb.2.2.2.1 e
    · have := World.block_lt_of_cell? W ⟨b, off, none⟩ hc; dsimp only at this; omega), hb.2.2.2.2⟩, ?_⟩)⟩
  rw [World.cell?_of_block (a := ⟨b, off, none⟩) (hk b (World.block_lt_of_cell? W ⟨b, off, none⟩ hc) hb.2.2.2.1)]
  exact hc
theorem EnvB.growB (h : EnvB EB w5 W cs nv vv tv bv ns vs ts bs tb) {q : Value} {bs' : List Value} {tb' : List (List (Int × Int))} (ho : W'.ownsRow (EB + 1) 54 1 q bs'.length bs') (hg : W.grownBy W' bv.ownBlock) (hl : ∀ z, q.ownBlock = some z → bv.ownBlock = some z ∨ z = W.heap.size) (htl : bs'.length = tb'.length) (htr : ∀ i (h : i < tb'.length), ∃ x, bs'[i]? = some x ∧ Row (TB EB nv vv tv bv) W 2 tb'[i].length x (flat2 tb'[i])) : EnvB EB w5 W' cs nv vv tv q ns vs ts bs' tb' := by
  have hk : ∀ b, b < W.heap.size → bv.ownBlock ≠ some b → W'.heap[b]? = W.heap[b]? := fun b hb hn => hg.block b hb (fun e => hn e.symm)
  have hq : ∀ z, q.ownBlock = some z → bv.ownBlock = some z ∨ z = W.heap.size := hl
  have hlow : Below EB w5 W' := h.low.grown hg (by have := h.ns'; omega) (fun z hz => by have := (h.ob.lt z hz).1; omega)
  refine ⟨hlow, (hk EB (by have := h.ns'; omega) (fun e => by have := (h.ob.lt EB e).1; omega)).trans h.box, owns_keep h.on (fun z hz => hk z (h.on.lt z hz).2 (owns_ne h.on h.ob (by decide) hz)), owns_keep h.ov (fun z hz => hk z (h.ov.lt z hz).2 (owns_ne h.ov h.ob (by decide) hz)), owns_keep h.ot (fun z hz => hk z (h.ot.lt z hz).2 (owns_ne h.ot h.ob (by decide) hz)), ho, h.ne, htl, fun i hi => ?_⟩
  obtain ⟨x, h1, h2⟩ := htr i hi
  refine ⟨x, h1, h2.mono2 (by omega) (fun b off u hb hc => ⟨⟨hb.1, hb.2.1, hb.2.2.1, hb.2.2.2.1, (fun e => by
    rcases hq b e with e | e
    · exact hb.2.2.2.2 e
    · have := World.block_lt_of_cell? W ⟨b, off, none⟩ hc; dsimp only at this; omega)⟩, ?_⟩)⟩
  rw [World.cell?_of_block (a := ⟨b, off, none⟩) (hk b (World.block_lt_of_cell? W ⟨b, off, none⟩ hc) hb.2.2.2.2)]
  exact hc
theorem EnvB.newB (h : EnvB EB w5 W cs nv vv tv bv ns vs ts bs tb) {q : Value} {bs' : List Value} {tb' : List (List (Int × Int))} (hm : More W W') (ho : W'.ownsRow W.heap.size 54 1 q bs'.length bs') (htl : bs'.length = tb'.length) (htr : ∀ i (h : i < tb'.length), ∃ x, bs'[i]? = some x ∧ Row (TB EB nv vv tv bv) W 2 tb'[i].length x (flat2 tb'[i])) : EnvB EB w5 W' cs nv vv tv q ns vs ts bs' tb' := by
  have hk : ∀ b, b < W.heap.size → bv.ownBlock ≠ some b → W'.heap[b]? = W.heap[b]? := fun b hb _ => hm.block hb
  have hq : ∀ z, q.ownBlock = some z → bv.ownBlock = some z ∨ W.heap.size ≤ z := fun z hz => Or.inr (ho.lt z hz).1
  have hlow : Below EB w5 W' := h.low.trans (hm.below.mono (by have := h.ns'; omega))
  refine ⟨hlow, (hk EB (by have := h.ns'; omega) (fun e => by have := (h.ob.lt EB e).1; omega)).trans h.box, owns_keep h.on (fun z hz => hm.block (h.on.lt z hz).2), owns_keep h.ov (fun z hz => hm.block (h.ov.lt z hz).2), owns_keep h.ot (fun z hz => hm.block (h.ot.lt z hz).2), owns_baseD ho (by have := h.ns'; omega), h.ne, htl, fun i hi => ?_⟩
  obtain ⟨x, h1, h2⟩ := htr i hi
  refine ⟨x, h1, h2.mono2 (by omega) (fun b off u hb hc => ⟨⟨hb.1, hb.2.1, hb.2.2.1, hb.2.2.2.1, (fun e => by
    rcases hq b e with e | e
    · exact hb.2.2.2.2 e
    · have := World.block_lt_of_cell? W ⟨b, off, none⟩ hc; dsimp only at this; omega)⟩, ?_⟩)⟩
  rw [World.cell?_of_block (a := ⟨b, off, none⟩) (hk b (World.block_lt_of_cell? W ⟨b, off, none⟩ hc) hb.2.2.2.2)]
  exact hc
/-- The environment as expr.Eval has it. -/
theorem EnvB.env (e : EnvD) {now : Int} (h : EnvB EB w5 W #[nv, vv, tv, bv, .int .i64 now] nv vv tv bv (e.names.map .string) (e.vals.map (.int .i64)) (e.tnames.map .string) bs e.tabs)
    (hs : e.names.length < 4294967296 ∧ e.vals.length < 4294967296 ∧ e.tnames.length < 4294967296 ∧ e.tabs.length < 4294967296 ∧ ∀ t ∈ e.tabs, t.length < 4294967296)
    (hn : In64 e.now ∧ (∀ v ∈ e.vals, In64 v) ∧ ∀ t ∈ e.tabs, ∀ x ∈ t, In64 x.1 ∧ In64 x.2) (ha : ∀ t ∈ e.tabs, Asc t) (ht : (∀ x ∈ e.names, x.size ≤ maxLen) ∧ ∀ x ∈ e.tnames, x.size ≤ maxLen) :
    EnvP (fun _ => True) W e nv vv tv bv := by
  have hT : ∀ {B : Nat} {e' : TypeId} {n : Nat} {v : Value} {xs : List Value}, W.ownsRow B e' 1 v n xs → Row (fun _ => True) W 1 n v xs := fun h => (Row.of_owns h).mono (fun _ _ => trivial) (fun _ _ _ _ h => h)
  refine ⟨⟨by simpa using hT h.on, by simpa using hT h.ov, by simpa using hT h.ot, ⟨bs, by have := hT h.ob; rwa [h.tl] at this, fun i hi => ?_⟩, hs, hn⟩, ha, ht⟩
  obtain ⟨x, h1, h2⟩ := h.tr i hi
  exact ⟨x, h1, h2.mono (fun _ _ => trivial) (fun _ _ _ _ h => h)⟩
end
set_option maxRecDepth 100000 in
set_option maxHeartbeats 1000000 in
theorem clone57_any (xs : List Value) (v : Value) (w : World) (S : Nat → Prop) (hl : xs.length ≤ 1000000) (h : Row S w 1 xs.length v xs) (hn : NilD v) (h1 : ∀ u ∈ xs, u.oneCell' = true) :
    Calls Try.prog 57 #[v] w fun e w' => (∃ v', e = .returned v' ∧ w'.ownsRow w.heap.size 9 1 v' xs.length xs) ∧ More w w' := by
  obtain ⟨a, cap, rfl, hcap⟩ := h.shape
  obtain ⟨i0, hi0, hz0, hz1, hz2⟩ := info_parts Try.info9s
  have hq := fun W => Lib.run_eql_slice_nil (P := Try.prog) W 90 9 a xs.length cap 0 0 Try.underlying90
  obtain ⟨n, HN⟩ : ∃ n, Hid (xs.length = n) := ⟨_, Lib.hid rfl⟩
  rw [HN.out] at hl h hq hn hcap ⊢
  have hz9 : (⟨0, 0, none⟩ : Addr) = ⟨0, 0, none⟩ := rfl
  clear hz9
  cases a with
  | none =>
    obtain rfl := hn _ _ _ rfl rfl
    have e0 : n = 0 := by omega
    subst e0
    have hx : xs = [] := List.length_eq_zero_iff.1 HN.out
    subst hx
    go_enter Try.func57, Try.ntmps57
    go_wp2_with fail
    go_ret
    exact ⟨⟨_, rfl, World.ownsRow_nil _ _ _ _⟩, more_of (Below.refl _ _)⟩
  | some ta =>
    have HR := Lib.hid h; clear h
    have HM := Lib.hid (more_allocD w (.cells #[] 9))
    have HO := Lib.hid (World.ownsRow_made (base := w.heap.size) (e := 9) (size := 1) w #[] 0 (Nat.le_refl _) (by unfold maxLen; omega) (by simp))
    have HNW := Lib.hid (show ∀ i u, xs[i]? = some u → (w.alloc (.cells #[] 9)).cell? (ta.add i) = some u from fun i u hu => by
      have hpos : 0 < n := by rw [← HN.out]; have := (List.getElem?_eq_some_iff.1 hu).1; omega
      obtain ⟨b, off, hb, _, _, hc⟩ := HR.out.at (by omega)
      cases hb
      rw [Addr.add_mid]
      exact HM.out.cell (hc i u hu))
    have H1 := Lib.hid h1; clear h1
    go_enter Try.func57, Try.ntmps57
    go_wp2_with (at_builtin; refine wpList_append_own _ rfl _ _ 90 rfl w.heap.size 9 i0 _ 1 16 Try.underlying90 hi0 hz0 hz1 hz2 rfl (by omega) (.slice (some ⟨w.heap.size, 0, none⟩) 0 0) 0 [] rfl HO.out ta n cap xs rfl (by rw [HN.out, Nat.mul_one]) HNW.out H1.out (by unfold maxLen; omega) (by omega) (by rw [World.size_alloc]; omega) ?_; intro v6 w6 hown6 hgrow6 _; obtain ⟨xa, xc, rfl, _⟩ := owns_shape hown6)
    have HM6 := Lib.hid (show More w w6 from more_of (HM.out.below.grown hgrow6 HM.out.size (fun z hz => (HO.out.lt z hz).1)))
    rw [Nat.zero_add, List.nil_append] at hown6
    try rw [Nat.zero_add]
    have HO6 := Lib.hid hown6
    clear hown6 hgrow6
    go_wp2_with fail
    go_ret
    exact ⟨⟨_, rfl, HO6.out⟩, HM6.out⟩
set_option maxRecDepth 100000 in
set_option maxHeartbeats 1000000 in
theorem clone58_any (xs : List Value) (v : Value) (w : World) (S : Nat → Prop) (hl : xs.length ≤ 1000000) (h : Row S w 1 xs.length v xs) (hn : NilD v) (h1 : ∀ u ∈ xs, u.oneCell' = true) :
    Calls Try.prog 58 #[v] w fun e w' => (∃ v', e = .returned v' ∧ w'.ownsRow w.heap.size 2 1 v' xs.length xs) ∧ More w w' := by
  obtain ⟨a, cap, rfl, hcap⟩ := h.shape
  obtain ⟨i0, hi0, hz0, hz1, hz2⟩ := info_parts Try.info2
  have hq := fun W => Lib.run_eql_slice_nil (P := Try.prog) W 73 2 a xs.length cap 0 0 Try.underlying73
  obtain ⟨n, HN⟩ : ∃ n, Hid (xs.length = n) := ⟨_, Lib.hid rfl⟩
  rw [HN.out] at hl h hq hn hcap ⊢
  have hz9 : (⟨0, 0, none⟩ : Addr) = ⟨0, 0, none⟩ := rfl
  clear hz9
  cases a with
  | none =>
    obtain rfl := hn _ _ _ rfl rfl
    have e0 : n = 0 := by omega
    subst e0
    have hx : xs = [] := List.length_eq_zero_iff.1 HN.out
    subst hx
    go_enter Try.func58, Try.ntmps58
    go_wp2_with fail
    go_ret
    exact ⟨⟨_, rfl, World.ownsRow_nil _ _ _ _⟩, more_of (Below.refl _ _)⟩
  | some ta =>
    have HR := Lib.hid h; clear h
    have HM := Lib.hid (more_allocD w (.cells #[] 2))
    have HO := Lib.hid (World.ownsRow_made (base := w.heap.size) (e := 2) (size := 1) w #[] 0 (Nat.le_refl _) (by unfold maxLen; omega) (by simp))
    have HNW := Lib.hid (show ∀ i u, xs[i]? = some u → (w.alloc (.cells #[] 2)).cell? (ta.add i) = some u from fun i u hu => by
      have hpos : 0 < n := by rw [← HN.out]; have := (List.getElem?_eq_some_iff.1 hu).1; omega
      obtain ⟨b, off, hb, _, _, hc⟩ := HR.out.at (by omega)
      cases hb
      rw [Addr.add_mid]
      exact HM.out.cell (hc i u hu))
    have H1 := Lib.hid h1; clear h1
    go_enter Try.func58, Try.ntmps58
    go_wp2_with (at_builtin; refine wpList_append_own _ rfl _ _ 73 rfl w.heap.size 2 i0 _ 1 8 Try.underlying73 hi0 hz0 hz1 hz2 rfl (by omega) (.slice (some ⟨w.heap.size, 0, none⟩) 0 0) 0 [] rfl HO.out ta n cap xs rfl (by rw [HN.out, Nat.mul_one]) HNW.out H1.out (by unfold maxLen; omega) (by omega) (by rw [World.size_alloc]; omega) ?_; intro v6 w6 hown6 hgrow6 _; obtain ⟨xa, xc, rfl, _⟩ := owns_shape hown6)
    have HM6 := Lib.hid (show More w w6 from more_of (HM.out.below.grown hgrow6 HM.out.size (fun z hz => (HO.out.lt z hz).1)))
    rw [Nat.zero_add, List.nil_append] at hown6
    try rw [Nat.zero_add]
    have HO6 := Lib.hid hown6
    clear hown6 hgrow6
    go_wp2_with fail
    go_ret
    exact ⟨⟨_, rfl, HO6.out⟩, HM6.out⟩
set_option maxRecDepth 100000 in
set_option maxHeartbeats 1000000 in
theorem clone59_any (xs : List Value) (v : Value) (w : World) (S : Nat → Prop) (hl : xs.length ≤ 1000000) (h : Row S w 1 xs.length v xs) (hn : NilD v) (h1 : ∀ u ∈ xs, u.oneCell' = true) :
    Calls Try.prog 59 #[v] w fun e w' => (∃ v', e = .returned v' ∧ w'.ownsRow w.heap.size 54 1 v' xs.length xs) ∧ More w w' := by
  obtain ⟨a, cap, rfl, hcap⟩ := h.shape
  obtain ⟨i0, hi0, hz0, hz1, hz2⟩ := info_parts Try.info54
  have hq := fun W => Lib.run_eql_slice_nil (P := Try.prog) W 47 54 a xs.length cap 0 0 Try.underlying47
  obtain ⟨n, HN⟩ : ∃ n, Hid (xs.length = n) := ⟨_, Lib.hid rfl⟩
  rw [HN.out] at hl h hq hn hcap ⊢
  have hz9 : (⟨0, 0, none⟩ : Addr) = ⟨0, 0, none⟩ := rfl
  clear hz9
  cases a with
  | none =>
    obtain rfl := hn _ _ _ rfl rfl
    have e0 : n = 0 := by omega
    subst e0
    have hx : xs = [] := List.length_eq_zero_iff.1 HN.out
    subst hx
    go_enter Try.func59, Try.ntmps59
    go_wp2_with fail
    go_ret
    exact ⟨⟨_, rfl, World.ownsRow_nil _ _ _ _⟩, more_of (Below.refl _ _)⟩
  | some ta =>
    have HR := Lib.hid h; clear h
    have HM := Lib.hid (more_allocD w (.cells #[] 54))
    have HO := Lib.hid (World.ownsRow_made (base := w.heap.size) (e := 54) (size := 1) w #[] 0 (Nat.le_refl _) (by unfold maxLen; omega) (by simp))
    have HNW := Lib.hid (show ∀ i u, xs[i]? = some u → (w.alloc (.cells #[] 54)).cell? (ta.add i) = some u from fun i u hu => by
      have hpos : 0 < n := by rw [← HN.out]; have := (List.getElem?_eq_some_iff.1 hu).1; omega
      obtain ⟨b, off, hb, _, _, hc⟩ := HR.out.at (by omega)
      cases hb
      rw [Addr.add_mid]
      exact HM.out.cell (hc i u hu))
    have H1 := Lib.hid h1; clear h1
    go_enter Try.func59, Try.ntmps59
    go_wp2_with (at_builtin; refine wpList_append_own _ rfl _ _ 47 rfl w.heap.size 54 i0 _ 1 24 Try.underlying47 hi0 hz0 hz1 hz2 rfl (by omega) (.slice (some ⟨w.heap.size, 0, none⟩) 0 0) 0 [] rfl HO.out ta n cap xs rfl (by rw [HN.out, Nat.mul_one]) HNW.out H1.out (by unfold maxLen; omega) (by omega) (by rw [World.size_alloc]; omega) ?_; intro v6 w6 hown6 hgrow6 _; obtain ⟨xa, xc, rfl, _⟩ := owns_shape hown6)
    have HM6 := Lib.hid (show More w w6 from more_of (HM.out.below.grown hgrow6 HM.out.size (fun z hz => (HO.out.lt z hz).1)))
    rw [Nat.zero_add, List.nil_append] at hown6
    try rw [Nat.zero_add]
    have HO6 := Lib.hid hown6
    clear hown6 hgrow6
    go_wp2_with fail
    go_ret
    exact ⟨⟨_, rfl, HO6.out⟩, HM6.out⟩
end Go.Proofs.Ytekhoanjpnjaeaa

/-
  DERIVED: THE SHELF's CONTRACTS AT THIS DUMP, IN PLAIN WORDS (tools/lay-plain.mjs out of 'TryShelfM.lean', which tools/lay-shelf.mjs wrote): THE SAME DECLARATIONS UNDER THE SAME NAMES: 'import', 'namespace', 'open', 'def', 'theorem' AND NOTHING ELSE: no command of the shelf's: FOR A HAND-IN. Each laying: the table of numbers ('.._ren') and one theorem, a field a fact of the dump's own or the kernel's comparison; each contract: ONE APPLICATION.
-/
namespace Go.Proofs
open Go.Shelf
def Try.keys102_ren : Go.Shelf.Ren := ⟨fun | 7 => 102 | 10 => 132 | n => n, fun | 23 => 181 | 26 => 9 | 3 => 4 | 28 => 185 | 0 => 0 | 27 => 184 | 33 => 232 | 4 => 4 | n => n, fun | n => n⟩
theorem Try.keys102 : Go.Proofs.SlLaysZ.n7 Try.prog Try.keys102_ren := {
  mixed := by kernel_rfl
  f7 := ⟨Try.f102.name, by decide, Try.func102.trans (congrArg some (by kernel_rfl))⟩
  f10 := ⟨Try.f132.name, by decide, Try.func132.trans (congrArg some (by kernel_rfl))⟩
  t0 := Try.underlying0
  a0 := Try.isAgg0
  z0 := Try.sizeOf0
  v0 := Try.zeroValue0
  t4 := Try.underlying4
  a4 := Try.isAgg4
  z4 := Try.sizeOf4
  v4 := Try.zeroValue4
  t23 := Try.underlying181
  a23 := Try.isAgg181
  z23 := Try.sizeOf181
  v23 := Try.zeroValue181
  t26 := Try.underlying9
  a26 := Try.isAgg9
  z26 := Try.sizeOf9
  v26 := Try.zeroValue9
  t27 := Try.underlying184
  a27 := Try.isAgg184
  z27 := Try.sizeOf184
  v27 := Try.zeroValue184
  t28 := Try.underlying185
  a28 := Try.isAgg185
  z28 := Try.sizeOf185
  v28 := Try.zeroValue185
  t33 := Try.underlying232
  a33 := Try.isAgg232
  z33 := Try.sizeOf232
  v33 := Try.zeroValue232 }
def Try.sorted101_ren : Go.Shelf.Ren := ⟨fun | 6 => 101 | 8 => 130 | 9 => 131 | 11 => 137 | 13 => 139 | 12 => 138 | 23 => 152 | 24 => 153 | 14 => 143 | 15 => 144 | 16 => 145 | 17 => 146 | 18 => 147 | 19 => 148 | 20 => 149 | 21 => 150 | 22 => 151 | 25 => 159 | 26 => 160 | 27 => 161 | 28 => 162 | 29 => 163 | 30 => 164 | 31 => 165 | n => n, fun | 26 => 9 | 28 => 185 | 24 => 90 | 0 => 0 | 3 => 3 | 37 => 235 | 48 => 251 | 50 => 133 | 4 => 4 | 40 => 244 | 39 => 243 | 45 => 148 | 5 => 5 | 9 => 9 | 51 => 256 | 55 => 260 | 57 => 262 | 58 => 263 | 33 => 232 | n => n, fun | n => n⟩
theorem Try.sorted101 : Go.Proofs.SlLaysZ.n6 Try.prog Try.sorted101_ren := {
  mixed := by kernel_rfl
  f6 := ⟨Try.f101.name, by decide, Try.func101.trans (congrArg some (by kernel_rfl))⟩
  f8 := ⟨Try.f130.name, by decide, Try.func130.trans (congrArg some (by kernel_rfl))⟩
  f11 := ⟨Try.f137.name, by decide, Try.func137.trans (congrArg some (by kernel_rfl))⟩
  t0 := Try.underlying0
  a0 := Try.isAgg0
  z0 := Try.sizeOf0
  v0 := Try.zeroValue0
  t24 := Try.underlying90
  a24 := Try.isAgg90
  z24 := Try.sizeOf90
  v24 := Try.zeroValue90
  t26 := Try.underlying9
  a26 := Try.isAgg9
  z26 := Try.sizeOf9
  v26 := Try.zeroValue9
  t28 := Try.underlying185
  a28 := Try.isAgg185
  z28 := Try.sizeOf185
  v28 := Try.zeroValue185
  i26 := by kernel_rfl }
def Try.sort131_ren : Go.Shelf.Ren := ⟨fun | 6 => 131 | 8 => 139 | 9 => 138 | 19 => 152 | 20 => 153 | 21 => 143 | 22 => 144 | 23 => 145 | 24 => 146 | 25 => 147 | 26 => 148 | 27 => 149 | 28 => 150 | 29 => 151 | 36 => 159 | 31 => 160 | 32 => 161 | 37 => 162 | 38 => 163 | 39 => 164 | 41 => 165 | n => n, fun | 27 => 90 | 29 => 9 | 3 => 3 | 32 => 235 | 26 => 90 | 0 => 0 | 44 => 251 | 46 => 133 | 4 => 4 | 36 => 244 | 35 => 243 | 41 => 148 | 5 => 5 | 9 => 9 | 53 => 256 | 57 => 260 | 63 => 262 | 64 => 263 | n => n, fun | n => n⟩
theorem Try.sort131 : Go.Proofs.SlLaysM.n6 Try.prog Try.sort131_ren := {
  mixed := by kernel_rfl
  f6 := ⟨Try.f131.name, by decide, Try.func131.trans (congrArg some (by kernel_rfl))⟩
  f8 := Try.func139.trans (congrArg some (by kernel_rfl))
  f9 := ⟨Try.f138.name, by decide, Try.func138.trans (congrArg some (by kernel_rfl))⟩
  f19 := Try.func152.trans (congrArg some (by kernel_rfl))
  f20 := Try.func153.trans (congrArg some (by kernel_rfl))
  f21 := ⟨Try.f143.name, by decide, Try.func143.trans (congrArg some (by kernel_rfl))⟩
  f22 := ⟨Try.f144.name, by decide, Try.func144.trans (congrArg some (by kernel_rfl))⟩
  f23 := ⟨Try.f145.name, by decide, Try.func145.trans (congrArg some (by kernel_rfl))⟩
  f24 := ⟨Try.f146.name, by decide, Try.func146.trans (congrArg some (by kernel_rfl))⟩
  f25 := ⟨Try.f147.name, by decide, Try.func147.trans (congrArg some (by kernel_rfl))⟩
  f26 := ⟨Try.f148.name, by decide, Try.func148.trans (congrArg some (by kernel_rfl))⟩
  f27 := ⟨Try.f149.name, by decide, Try.func149.trans (congrArg some (by kernel_rfl))⟩
  f28 := ⟨Try.f150.name, by decide, Try.func150.trans (congrArg some (by kernel_rfl))⟩
  f29 := ⟨Try.f151.name, by decide, Try.func151.trans (congrArg some (by kernel_rfl))⟩
  f31 := Try.func160.trans (congrArg some (by kernel_rfl))
  f32 := Try.func161.trans (congrArg some (by kernel_rfl))
  f36 := ⟨Try.f159.name, by decide, Try.func159.trans (congrArg some (by kernel_rfl))⟩
  f37 := ⟨Try.f162.name, by decide, Try.func162.trans (congrArg some (by kernel_rfl))⟩
  f38 := ⟨Try.f163.name, by decide, Try.func163.trans (congrArg some (by kernel_rfl))⟩
  f39 := ⟨Try.f164.name, by decide, Try.func164.trans (congrArg some (by kernel_rfl))⟩
  f41 := ⟨Try.f165.name, by decide, Try.func165.trans (congrArg some (by kernel_rfl))⟩
  t0 := Try.underlying0
  a0 := Try.isAgg0
  z0 := Try.sizeOf0
  v0 := Try.zeroValue0
  t3 := Try.underlying3
  a3 := Try.isAgg3
  z3 := Try.sizeOf3
  v3 := Try.zeroValue3
  t4 := Try.underlying4
  a4 := Try.isAgg4
  z4 := Try.sizeOf4
  v4 := Try.zeroValue4
  t5 := Try.underlying5
  a5 := Try.isAgg5
  z5 := Try.sizeOf5
  v5 := Try.zeroValue5
  t9 := Try.underlying9
  a9 := Try.isAgg9
  z9 := Try.sizeOf9
  v9 := Try.zeroValue9
  t26 := Try.underlying90
  a26 := Try.isAgg90
  z26 := Try.sizeOf90
  v26 := Try.zeroValue90
  t27 := Try.underlying90
  a27 := Try.isAgg90
  z27 := Try.sizeOf90
  v27 := Try.zeroValue90
  t29 := Try.underlying9
  a29 := Try.isAgg9
  z29 := Try.sizeOf9
  v29 := Try.zeroValue9
  t32 := Try.underlying235
  a32 := Try.isAgg235
  z32 := Try.sizeOf235
  v32 := Try.zeroValue235
  t35 := Try.underlying243
  a35 := Try.isAgg243
  z35 := Try.sizeOf243
  v35 := Try.zeroValue243
  t36 := Try.underlying244
  a36 := Try.isAgg244
  z36 := Try.sizeOf244
  v36 := Try.zeroValue244
  t41 := Try.underlying148
  a41 := Try.isAgg148
  z41 := Try.sizeOf148
  v41 := Try.zeroValue148
  t44 := Try.underlying251
  a44 := Try.isAgg251
  z44 := Try.sizeOf251
  v44 := Try.zeroValue251
  t46 := Try.underlying133
  a46 := Try.isAgg133
  z46 := Try.sizeOf133
  v46 := Try.zeroValue133
  t53 := Try.underlying256
  a53 := Try.isAgg256
  z53 := Try.sizeOf256
  v53 := Try.zeroValue256
  t57 := Try.underlying260
  a57 := Try.isAgg260
  z57 := Try.sizeOf260
  v57 := Try.zeroValue260
  t63 := Try.underlying262
  a63 := Try.isAgg262
  z63 := Try.sizeOf262
  v63 := Try.zeroValue262
  t64 := Try.underlying263
  a64 := Try.isAgg263
  z64 := Try.sizeOf263
  v64 := Try.zeroValue263 }
end Go.Proofs

/- expr.collect (100). -/
namespace Go.Proofs.Ytekhoanjpnjaeaa
open Go.RowKit Go.Maps

def CollSaid (d : Nat) : Prop := ∀ (S : Nat → Prop) (t : Ex) (b off : Nat) (w : World) (b1 b2 : Nat) (X Y : List ByteArray), RepAt .u8 S w d t b off → SetMap w b1 X → SetMap w b2 Y → b1 ≠ b2 → (∀ x, S x → x ≠ b1 ∧ x ≠ b2) → b ≠ b1 → b ≠ b2 →
    X.length + (nms false t).length ≤ 1000000 → Y.length + (nms true t).length ≤ 1000000 →
    Calls Try.prog 100 #[.pointer (some ⟨b, off, none⟩), .map (some b1), .map (some b2)] w fun r w' => r = .returned (.tuple #[]) ∧ Two w w' b1 b2 ∧ SetMap w' b1 (X ++ nms false t) ∧ SetMap w' b2 (Y ++ nms true t)
theorem RepAt.two {S : Nat → Prop} {w w' : World} {d : Nat} {t : Ex} {b off b1 b2 : Nat} (h : RepAt .u8 S w d t b off) (ht : Two w w' b1 b2) (hS : ∀ x, S x → x ≠ b1 ∧ x ≠ b2) (h1 : b ≠ b1) (h2 : b ≠ b2) : RepAt .u8 S w' d t b off :=
  h.mono (fun _ h => h) (fun x _ _ hx hc => ht.cell hc (hS x hx).1 (hS x hx).2) (fun _ _ _ hc => ht.cell hc h1 h2) (Nat.le_refl _)
theorem nmsL_le (k : Bool) : ∀ (l : List Ex) (i : Nat), (nmsL k (l.take i)).length ≤ (nmsL k l).length
  | [], i => by rw [List.take_nil]; exact Nat.le_refl _
  | t :: ts, 0 => Nat.zero_le _
  | t :: ts, i + 1 => by
    rw [List.take_succ_cons, nmsL, nmsL, List.length_append, List.length_append]
    have := nmsL_le k ts i
    omega
theorem sum_le {k : Bool} {t : Ex} {X : List ByteArray} {M i : Nat} (hX : X.length + (nms k t).length ≤ M) (hi : i < t.args.length) : ((X ++ nmsN k t.op t.name) ++ nmsL k (t.args.take i)).length + (nms k t.args[i]).length ≤ M := by
  have h1 := nmsL_le k t.args (i + 1)
  rw [nmsL_take k t.args i hi, List.length_append] at h1
  rw [nms_eq, List.length_append] at hX
  rw [List.length_append, List.length_append]
  omega

set_option maxHeartbeats 2000000 in
set_option maxRecDepth 100000 in
theorem collect_any (d : Nat) : CollSaid d := by
  induction d using Nat.strongRecOn with
  | _ d ih =>
    intro S t b off w b1 b2 X Y h hX hY hb hS hb1 hb2 hXl hYl
    have IH := Lib.hid ih; clear ih
    have HAT := Lib.hid h
    obtain ⟨h0, h1, h2, hf, c, h3, hc⟩ := h
    obtain ⟨a, cap, rfl⟩ := hc.shape
    have hlen := hf.len
    have HNS := Lib.hid hf.name
    have HX := Lib.hid hX; clear hX
    have HY := Lib.hid hY; clear hY
    have HB := Lib.hid hb; clear hb
    have HS := Lib.hid hS; clear hS
    have HB1 := Lib.hid hb1; clear hb1
    have HB2 := Lib.hid hb2; clear hb2
    have HXL := Lib.hid hXl; clear hXl
    have HYL := Lib.hid hYl; clear hYl
    have HNA := Lib.hid (nms_eq false t)
    have HNB := Lib.hid (nms_eq true t)
    clear hc
    have hcases : t.op = 5 ∨ t.op = 6 ∨ t.op = 7 ∨ t.op = 8 ∨ ¬ (5 ≤ t.op ∧ t.op ≤ 8) := by omega
    rcases hcases with h5 | h5 | h5 | h5 | h5
    case' inl =>
      have t5 : (t.op == 5) = true := by simp [h5]
      have HPA := Lib.hid (show nmsN false t.op t.name = [t.name] by unfold nmsN; simp [h5])
      have HPB := Lib.hid (show nmsN true t.op t.name = [] by unfold nmsN; simp [h5])
      clear h5
      obtain ⟨n, D, ho, hn, hD⟩ := HX.out
      have HO := Lib.hid ho
      have HD := Lib.hid (And.intro hn hD)
      have hnm : n < maxLen := by have := HXL.out; unfold maxLen; omega
      have HK := Lib.hid (show keyOf Try.prog 9 (.string t.name) = some (keyS t.name) from WideMaps.keyOf_string_mk Try.underlying9 HNS.out)
      have HW := Lib.hid (show plainElem (H := Unit) Try.prog 4 (.bool true) = some (boolD true, []) from plainElem_bool Try.underlying4 true)
      clear ho hn hD
      go_enter Try.func100, Try.ntmps100
      go_wp2_with (at_mapUpdate; refine wpList_mapUpdate_own _ rfl _ _ _ 181 rfl 9 4 lawS Try.underlying181 _ b1 n D rfl HO.out hnm _ _ _ rfl rfl HK.out _ [] HW.out ?_; intro w1 hown1 hgrow1; have g3 : w1.cell? ⟨b, off + 3, none⟩ = some (.slice a t.args.length cap) := ((Two.of_grown hgrow1 (b2 := b2) (Or.inl rfl)).cell h3 HB1.out HB2.out))
      have HT1 := Lib.hid (Two.of_grown hgrow1 (b2 := b2) (Or.inl rfl))
      have HX1 := Lib.hid (show SetMap w1 b1 (X ++ nmsN false t.op t.name) by rw [HPA.out]; exact SetMap.put HO.out.isMap HD.out.1 HD.out.2 hown1)
      have HY1 := Lib.hid (show SetMap w1 b2 (Y ++ nmsN true t.op t.name) by rw [HPB.out, List.append_nil]; exact HY.out.keep (hgrow1.block _ HY.out.lt (fun e => by cases e; exact HB.out rfl)))
      clear hown1 hgrow1 hnm
      go_wp2_with fail
    case' inr.inl =>
      have t5 : (t.op == 5) = false := by simp [h5]
      have t6 : (t.op == 6) = true := by simp [h5]
      have HPA := Lib.hid (show nmsN false t.op t.name = [] by unfold nmsN; simp [h5])
      have HPB := Lib.hid (show nmsN true t.op t.name = [t.name] by unfold nmsN; simp [h5])
    case' inr.inr.inl =>
      have t5 : (t.op == 5) = false := by simp [h5]
      have t6 : (t.op == 6) = false := by simp [h5]
      have t7 : (t.op == 7) = true := by simp [h5]
      have HPA := Lib.hid (show nmsN false t.op t.name = [] by unfold nmsN; simp [h5])
      have HPB := Lib.hid (show nmsN true t.op t.name = [t.name] by unfold nmsN; simp [h5])
    case' inr.inr.inr.inl =>
      have t5 : (t.op == 5) = false := by simp [h5]
      have t6 : (t.op == 6) = false := by simp [h5]
      have t7 : (t.op == 7) = false := by simp [h5]
      have t8 : (t.op == 8) = true := by simp [h5]
      have HPA := Lib.hid (show nmsN false t.op t.name = [] by unfold nmsN; simp [h5])
      have HPB := Lib.hid (show nmsN true t.op t.name = [t.name] by unfold nmsN; simp [h5])
    case' inr.inr.inr.inr =>
      have t5 : (t.op == 5) = false := by simp; omega
      have t6 : (t.op == 6) = false := by simp; omega
      have t7 : (t.op == 7) = false := by simp; omega
      have t8 : (t.op == 8) = false := by simp; omega
      have HX1 := Lib.hid (show SetMap w b1 (X ++ nmsN false t.op t.name) by rw [show nmsN false t.op t.name = [] by unfold nmsN; simp; omega, List.append_nil]; exact HX.out)
      have HY1 := Lib.hid (show SetMap w b2 (Y ++ nmsN true t.op t.name) by rw [show nmsN true t.op t.name = [] by unfold nmsN; simp; omega, List.append_nil]; exact HY.out)
      clear h5
      have HT1 := Lib.hid (Two.refl w b1 b2)
      go_enter Try.func100, Try.ntmps100
      go_wp2_with fail
    all_goals try (
      clear h5
      obtain ⟨n, D, ho, hn, hD⟩ := HY.out
      have HO := Lib.hid ho
      have HD := Lib.hid (And.intro hn hD)
      have hnm : n < maxLen := by have := HYL.out; unfold maxLen; omega
      have HK := Lib.hid (show keyOf Try.prog 9 (.string t.name) = some (keyS t.name) from WideMaps.keyOf_string_mk Try.underlying9 HNS.out)
      have HW := Lib.hid (show plainElem (H := Unit) Try.prog 4 (.bool true) = some (boolD true, []) from plainElem_bool Try.underlying4 true)
      clear ho hn hD
      go_enter Try.func100, Try.ntmps100
      go_wp2_with (at_mapUpdate; refine wpList_mapUpdate_own _ rfl _ _ _ 181 rfl 9 4 lawS Try.underlying181 _ b2 n D rfl HO.out hnm _ _ _ rfl rfl HK.out _ [] HW.out ?_; intro w1 hown1 hgrow1; have g3 : w1.cell? ⟨b, off + 3, none⟩ = some (.slice a t.args.length cap) := ((Two.of_grown hgrow1 (b1 := b1) (Or.inr rfl)).cell h3 HB1.out HB2.out))
      have HT1 := Lib.hid (Two.of_grown hgrow1 (b1 := b1) (Or.inr rfl))
      have HY1 := Lib.hid (show SetMap w1 b2 (Y ++ nmsN true t.op t.name) by rw [HPB.out]; exact SetMap.put HO.out.isMap HD.out.1 HD.out.2 hown1)
      have HX1 := Lib.hid (show SetMap w1 b1 (X ++ nmsN false t.op t.name) by rw [HPA.out, List.append_nil]; exact HX.out.keep (hgrow1.block _ HX.out.lt (fun e => by cases e; exact HB.out rfl)))
      clear hown1 hgrow1 hnm
      go_wp2_with fail)
    all_goals
      clear h0 h1 h2 h3
      try clear g3
      go_loopw [32] (fun i wr => ∃ k : Nat, k ≤ t.args.length ∧ i = .int .i64 k ∧ Hid (Two w wr b1 b2) ∧ Hid (SetMap wr b1 ((X ++ nmsN false t.op t.name) ++ nmsL false (t.args.take k))) ∧ Hid (SetMap wr b2 ((Y ++ nmsN true t.op t.name) ++ nmsL true (t.args.take k)))) (fun i _ => t.args.length - (intOf i).toNat)
      case atStart => exact ⟨0, Nat.zero_le _, rfl, HT1, Lib.hid (by rw [List.take_zero, nmsL, List.append_nil]; exact HX1.out), Lib.hid (by rw [List.take_zero, nmsL, List.append_nil]; exact HY1.out)⟩
      case round =>
        obtain ⟨k, hk, rfl, HT, HXk, HYk⟩ := hrel
        by_cases hlt : k < t.args.length
        · have hne : t.args ≠ [] := by intro e; rw [e] at hlt; simp at hlt
          have hat := HAT.out.two HT.out HS.out HB1.out HB2.out
          obtain ⟨_, _, _, _, c', g3, hc'⟩ := hat
          obtain ⟨_, _, e'⟩ := hc'.shape
          subst e'
          obtain ⟨d', b', off', rfl, rfl, _, hSb, hat'⟩ := hc'.at hne
          have HKT := Lib.hid (hat' k hlt)
          have HSB := Lib.hid hSb
          have HTA := Lib.hid (nmsL_take false t.args k hlt)
          have HTB := Lib.hid (nmsL_take true t.args k hlt)
          have HLA := Lib.hid (sum_le HXL.out hlt)
          have HLB := Lib.hid (sum_le HYL.out hlt)
          clear hat' hc' hSb hne
          go_wp2_with fail
          refine (IH.out d' (by omega) S t.args[k] b' (off' + k * 4) wr b1 b2 _ _ HKT.out HXk.out HYk.out HB.out HS.out (HS.out _ HSB.out).1 (HS.out _ HSB.out).2 HLA.out HLB.out).mono ?_
          rintro r w' ⟨rfl, ht', hx', hy'⟩
          rw [List.append_assoc, ← HTA.out] at hx'
          rw [List.append_assoc, ← HTB.out] at hy'
          have HT' := Lib.hid (HT.out.trans ht')
          have HX' := Lib.hid hx'
          have HY' := Lib.hid hy'
          clear ht' hx' hy'
          go_wp2_with fail
          go_roundw
          case rel => exact ⟨k + 1, by omega, by go_num, HT', HX', HY'⟩
          case measure => simp [intOf]; omega
        · have HKK := Lib.hid (show t.args.take k = t.args from List.take_of_length_le (by omega))
          go_wp2_with fail
          go_end0
          refine ⟨rfl, HT.out, ?_, ?_⟩
          · have := HXk.out; rw [HKK.out] at this; rw [HNA.out, ← List.append_assoc]; exact this
          · have := HYk.out; rw [HKK.out] at this; rw [HNB.out, ← List.append_assoc]; exact this
end Go.Proofs.Ytekhoanjpnjaeaa

/- expr.Reads (54): the sorted names and tables of a tree. -/
namespace Go.Proofs.Ytekhoanjpnjaeaa
open Go.RowKit Go.Maps Go.Sort Go.Shelf

theorem Try.sorts101 (m : Nat) : AnyZ.SortsIn Try.prog Try.sorted101_ren Fence.wide m :=
  ⟨fun blk off cap ss W hH hblk hsz => callsIn_wide.2 (AnyM.slices_Sort_string Try.sort131 blk off cap ss W hH hblk hsz),
   fun p cap W => callsIn_wide.2 (AnyM.slices_Sort_string_none Try.sort131 p cap W)⟩

theorem Try.maps_Keys_102 (mb : Option Nat) (W : World) : CallsIn Fence.wide 5 Try.prog 102 #[.map mb] W fun e w' => e = .returned (.func (.func 132) #[] #[.pointer (some ⟨W.heap.size, 0, none⟩)]) ∧ w' = W.alloc (.cells #[.map mb] 181) :=
  AnyZ.keys_in Try.keys102 Fence.wide 5 trivial rfl mb W

set_option maxHeartbeats 1000000 in
theorem Try.slices_Sorted_keys_101_102 {H : Type} (b nn : Nat) (D0 : DataW H) (R : Value → Option (DataW H × List MemPlace)) (w : World) (hown : w.ownsMap Try.prog 9 R b nn D0) (hmax : Maps.size D0 ≤ maxLen) (hbytes : Maps.size D0 * 16 ≤ 140737488355328) :
    CallsIn Fence.wide 5 Try.prog 101 #[.func (.func 132) #[] #[.pointer (some ⟨w.heap.size, 0, none⟩)]] (w.alloc (.cells #[.map (some b)] 181)) fun e w' => ∃ (v : Value) (ss : List (List UInt8)), e = .returned v ∧ ss.Perm (strKeys D0) ∧
      w'.ownsRow (w.alloc (.cells #[.map (some b)] 181)).heap.size 9 1 v ss.length ((ss.mergeSort (fun x y => decide (x ≤ y))).map encStr) ∧ (v = .slice none 0 0 ↔ ss = []) ∧ Below (w.alloc (.cells #[.map (some b)] 181)).heap.size (w.alloc (.cells #[.map (some b)] 181)) w' := by
  have hbl := hown.lt
  have hseq : SeqGives Fence.wide 2 Try.prog 132 #[.pointer (some ⟨w.heap.size, 0, none⟩)] encStr (fun ss => ss.Perm (strKeys D0)) (Maps.size D0) (w.alloc (.cells #[.map (some b)] 181)) :=
    AnyZ.keys_gives (ρ := Try.keys102_ren) { Try.keys102 with } Fence.wide _ trivial rfl (by omega) w.heap.size b nn D0 _ (by simp) (by simp) (by
      obtain ⟨es, clock, hb, Ft, hs, hD⟩ := hown
      exact ⟨es, clock, (Below.heap_alloc _ _ b hbl).trans hb, Ft, hs, hD⟩)
  exact AnyZ.sorted_in Try.sorted101 Fence.wide 5 trivial trivial trivial trivial rfl (by omega) (Try.sorts101 _) (enters_of Try.func131 (by kernel_rfl) rfl) 132 #[.pointer (some ⟨w.heap.size, 0, none⟩)] trivial (enters_of Try.func132 (by kernel_rfl) rfl) _ _ hmax hbytes _ hseq


theorem sorted_any {w : World} {b : Nat} {X : List ByteArray} (h : SetMap w b X) (hX : X.length ≤ 1000000) :
    CallsIn Fence.wide 5 Try.prog 101 #[.func (.func 132) #[] #[.pointer (some ⟨w.heap.size, 0, none⟩)]] (w.alloc (.cells #[.map (some b)] 181)) fun e w' => ∃ a c, e = .returned (.slice a (setS X).length c) ∧ Row (fun _ => True) w' 1 (setS X).length (.slice a (setS X).length c) (sV (setS X)) ∧ Below (w.alloc (.cells #[.map (some b)] 181)).heap.size (w.alloc (.cells #[.map (some b)] 181)) w' := by
  obtain ⟨n, D, ho, hn, hD⟩ := h
  have hsz : Maps.size D ≤ 1000000 := Nat.le_trans ho.size_le (by omega)
  refine (Try.slices_Sorted_keys_101_102 b n D _ w ho (by unfold maxLen; omega) (by omega)).mono ?_
  rintro e w' ⟨v, ss, rfl, hp, hrow, _, hb⟩
  have he := sorted_keys ho hD hp
  have hl : ss.length = (setS X).length := by have := congrArg List.length he; simpa using this
  rw [he, hl] at hrow
  obtain ⟨a, c, rfl, _⟩ := owns_shape hrow
  exact ⟨a, c, rfl, (Row.of_owns hrow).mono (fun _ _ => trivial) (fun _ _ _ _ h => h), hb⟩

set_option maxRecDepth 100000 in
set_option maxHeartbeats 2000000 in
theorem reads_any (S : Nat → Prop) (d : Nat) (t : Ex) (c : Value) (w : World) (hf : Flds .u8 t) (hr : RepS .u8 S w d t.args c) (hS : ∀ x, S x → x < w.heap.size) (hA : (nms false t).length ≤ 1000) (hB : (nms true t).length ≤ 1000) :
    Calls Try.prog 54 #[agg .u8 t c] w fun e w' => More w w' ∧ ∃ a1 c1 a2 c2, e = .returned (.tuple #[.slice a1 (setS (nms false t)).length c1, .slice a2 (setS (nms true t)).length c2]) ∧
      Row (fun _ => True) w' 1 (setS (nms false t)).length (.slice a1 (setS (nms false t)).length c1) (sV (setS (nms false t))) ∧ Row (fun _ => True) w' 1 (setS (nms true t)).length (.slice a2 (setS (nms true t)).length c2) (sV (setS (nms true t))) := by
  obtain ⟨a, cap, rfl⟩ := hr.shape
  have hmm := run_makeMap181
  have HF := Lib.hid hf; clear hf
  have HR := Lib.hid hr; clear hr
  have HS := Lib.hid hS; clear hS
  have HA := Lib.hid hA; clear hA
  have HB := Lib.hid hB; clear hB
  unfold agg
  refine (callsIn_wide (n := 6)).1 ?_
  refine callsIn_of_wp Try.func54 rfl trivial ?_ rfl
  simp only [Try.ntmps54, List.size_toArray, List.length_cons, List.length_nil, Nat.reduceAdd, Nat.reduceSub, Array.replicate_succ, Array.replicate_zero, List.push_toArray, List.append_toArray, List.nil_append, List.cons_append]
  gi_wp2_with fail
  have hB3 : Below w.heap.size w (((w.alloc (.cells #[.int .u8 t.op, .string t.name, .int .i64 t.n, .slice a t.args.length cap] 41)).alloc (.map #[] 0)).alloc (.map #[] 0)) := (((Below.refl _ _).alloc (Nat.le_refl _) _).alloc (by simp) _).alloc (by simp; omega) _
  have hx3 : (((w.alloc (.cells #[.int .u8 t.op, .string t.name, .int .i64 t.n, .slice a t.args.length cap] 41)).alloc (.map #[] 0)).alloc (.map #[] 0)).heap[w.heap.size]? = some (.cells #[.int .u8 t.op, .string t.name, .int .i64 t.n, .slice a t.args.length cap] 41) := by
    rw [Below.heap_alloc _ _ _ (by simp; omega), Below.heap_alloc _ _ _ (by simp)]; exact alloc_at _ _ rfl
  have hX3 : SetMap (((w.alloc (.cells #[.int .u8 t.op, .string t.name, .int .i64 t.n, .slice a t.args.length cap] 41)).alloc (.map #[] 0)).alloc (.map #[] 0)) (w.heap.size + 1) [] := by
    have h := SetMap.start (w.alloc (.cells #[.int .u8 t.op, .string t.name, .int .i64 t.n, .slice a t.args.length cap] 41))
    rw [World.size_alloc] at h
    exact h.keep (Below.heap_alloc _ _ _ (by simp))
  have hY3 : SetMap (((w.alloc (.cells #[.int .u8 t.op, .string t.name, .int .i64 t.n, .slice a t.args.length cap] 41)).alloc (.map #[] 0)).alloc (.map #[] 0)) (w.heap.size + 1 + 1) [] := by
    have h := SetMap.start ((w.alloc (.cells #[.int .u8 t.op, .string t.name, .int .i64 t.n, .slice a t.args.length cap] 41)).alloc (.map #[] 0))
    rw [World.size_alloc, World.size_alloc] at h
    exact h
  have hsz : w.heap.size + 1 + 1 + 1 = (((w.alloc (.cells #[.int .u8 t.op, .string t.name, .int .i64 t.n, .slice a t.args.length cap] 41)).alloc (.map #[] 0)).alloc (.map #[] 0)).heap.size := by simp
  generalize ((w.alloc (.cells #[.int .u8 t.op, .string t.name, .int .i64 t.n, .slice a t.args.length cap] 41)).alloc (.map #[] 0)).alloc (.map #[] 0) = w3 at *
  have HB3 := Lib.hid hB3
  have HX3 := Lib.hid hX3
  have HY3 := Lib.hid hY3
  have HSZ := Lib.hid hsz
  have HAT := Lib.hid (show RepAt .u8 (fun x => x < w.heap.size) w3 d t w.heap.size 0 from
    ⟨by simp [World.cell?, hx3], by simp [World.cell?, hx3], by simp [World.cell?, hx3], HF.out, _, by simp [World.cell?, hx3], (HR.out.below hB3).mono (fun b hb => HS.out b hb) (fun _ _ _ _ h => h) (Nat.le_refl _)⟩)
  clear hB3 hx3 hX3 hY3 hmm hsz
  refine ⟨trivial, (callsIn_wide.2 (collect_any d (fun x => x < w.heap.size) t w.heap.size 0 w3 (w.heap.size + 1) (w.heap.size + 1 + 1) [] [] HAT.out HX3.out HY3.out (by omega) (fun x hx => ⟨by omega, by omega⟩) (by omega) (by omega) (by have := HA.out; simp; omega) (by have := HB.out; simp; omega))).mono ?_⟩
  rintro e w4 ⟨rfl, ht4, hx4, hy4⟩
  rw [List.nil_append] at hx4 hy4
  have HM4 := Lib.hid (show More w w4 from more_of (HB3.out.trans (ht4.below (by have := HSZ.out; omega) (by omega) (by omega))))
  have HX4 := Lib.hid hx4
  have HY4 := Lib.hid hy4
  clear ht4 hx4 hy4
  gi_wp2_with fail
  refine ⟨trivial, (Try.maps_Keys_102 _ _).mono ?_⟩
  rintro e w' ⟨rfl, hw'⟩
  rw [hw']; clear hw' w'
  gi_wp2_with fail
  refine ⟨trivial, (sorted_any HX4.out (by have := HA.out; omega)).mono ?_⟩
  rintro e w5 ⟨na, nc, rfl, hr5, hb5⟩
  have HM45 := Lib.hid (show More w4 w5 from more_trans (World.grownBy_alloc _ _ _) (more_of hb5))
  have HR5 := Lib.hid hr5
  have HY5 := Lib.hid (HY4.out.below HM45.out.below)
  clear hr5 hb5
  gi_wp2_with fail
  refine ⟨trivial, (Try.maps_Keys_102 _ _).mono ?_⟩
  rintro e w' ⟨rfl, hw'⟩
  rw [hw']; clear hw' w'
  gi_wp2_with fail
  refine ⟨trivial, (sorted_any HY5.out (by have := HB.out; omega)).mono ?_⟩
  rintro e w6 ⟨ta, tc, rfl, hr6, hb6⟩
  have HM56 := Lib.hid (show More w5 w6 from more_trans (World.grownBy_alloc _ _ _) (more_of hb6))
  have HR6 := Lib.hid hr6
  clear hr6 hb6
  gi_wp2_with fail
  go_ret2
  exact ⟨more_trans HM4.out (more_trans HM45.out HM56.out), na, nc, ta, tc, rfl, HR5.out.below HM56.out.below, HR6.out⟩
end Go.Proofs.Ytekhoanjpnjaeaa

/- The contract of rootcauselaw10.awake: it returns true. -/
namespace Go.Proofs.Ytekhoanjpnjaeaa
open Go.RowKit

def tryT : Ex := .node 10 ByteArray.empty 0 [.node 18 ByteArray.empty 0 [.node 1 ByteArray.empty 1 [], .node 1 ByteArray.empty 2 []]]
theorem tryT_fold : foldTop tryT = .node 3 ByteArray.empty 0 [] := by
  simp [tryT, foldTop, Ex.formed, Ex.formedL, opnd, foldT, foldL, foldN, allC, constV, foldV, valsC, binV, unV, litT, Ex.op, Ex.n, Ex.args, tr]

theorem awake_any (w : World) : Calls Try.prog 19 #[] w fun e w' => e = .returned (.bool true) ∧ Below w.heap.size w w' := by
  go_enter Try.func19, Try.ntmps19
  go_wp2_with fail
  refine (binary_any 12 (-7) 2 _).mono ?_
  rw [show binV 12 (-7) 2 = (-3, 0) from by decide +kernel]
  rintro e w' ⟨rfl, rfl⟩
  go_wp2_with fail
  refine (binary_any 13 (-7) 2 _).mono ?_
  rw [show binV 13 (-7) 2 = (-1, 0) from by decide +kernel]
  rintro e w' ⟨rfl, rfl⟩
  go_wp2_with fail
  refine (binary_any 12 7 0 _).mono ?_
  rw [show binV 12 7 0 = (0, 0) from by decide +kernel]
  rintro e w' ⟨rfl, rfl⟩
  go_wp2_with fail
  refine (binary_any 22 2 1 _).mono ?_
  rw [show binV 22 2 1 = (1, 0) from by decide +kernel]
  rintro e w' ⟨rfl, rfl⟩
  go_wp2_with fail
  generalize hw2 : (w.alloc (.cells #[.int .u8 1, .string ⟨#[]⟩, .int .i64 1, .slice none 0 0, .int .u8 1, .string ⟨#[]⟩, .int .i64 2, .slice none 0 0] 41)).alloc (.cells #[.int .u8 18, .string ⟨#[]⟩, .int .i64 0, .slice (some ⟨w.heap.size, 0, none⟩) 2 2] 41) = w2
  have hB2 : Below w.heap.size w w2 := by rw [← hw2]; exact ((Below.refl _ _).alloc (Nat.le_refl _) _).alloc (by simp) _
  have hR : RepS .u8 (fun _ => True) w2 2 tryT.args (.slice (some ⟨w.heap.size + 1, 0, none⟩) 1 1) := by
    have e0 : w2.heap[w.heap.size]? = some (.cells #[.int .u8 1, .string ⟨#[]⟩, .int .i64 1, .slice none 0 0, .int .u8 1, .string ⟨#[]⟩, .int .i64 2, .slice none 0 0] 41) := by
      rw [← hw2, Below.heap_alloc _ _ _ (by simp)]; exact alloc_last _ _
    have e1 : w2.heap[w.heap.size + 1]? = some (.cells #[.int .u8 18, .string ⟨#[]⟩, .int .i64 0, .slice (some ⟨w.heap.size, 0, none⟩) 2 2] 41) := by
      rw [← hw2]; exact alloc_at _ _ (by simp)
    refine RepS.mk rfl trivial (fun i hi => ?_)
    obtain rfl : i = 0 := by simpa [tryT, Ex.args] using hi
    refine ⟨by simp [World.cell?, e1]; rfl, by simp [World.cell?, e1]; rfl, by simp [World.cell?, e1]; rfl, ⟨show (Lit.int .u8 18).wf = true by decide, show (Lit.int .i64 0).wf = true by decide, Nat.zero_le _, show 2 < 4294967296 by decide⟩, _, by simp [World.cell?, e1]; rfl, ?_⟩
    refine RepS.mk rfl trivial (fun i hi => ?_)
    rcases (show i = 0 ∨ i = 1 by have : i < 2 := hi; omega) with rfl | rfl
    · exact ⟨by simp [World.cell?, e0]; rfl, by simp [World.cell?, e0]; rfl, by simp [World.cell?, e0]; rfl, ⟨show (Lit.int .u8 1).wf = true by decide, show (Lit.int .i64 1).wf = true by decide, Nat.zero_le _, show 0 < 4294967296 by decide⟩, .slice none 0 0, by simp [World.cell?, e0], RepS.nil _ _ _⟩
    · exact ⟨by simp [World.cell?, e0]; rfl, by simp [World.cell?, e0]; rfl, by simp [World.cell?, e0]; rfl, ⟨show (Lit.int .u8 1).wf = true by decide, show (Lit.int .i64 2).wf = true by decide, Nat.zero_le _, show 0 < 4294967296 by decide⟩, .slice none 0 0, by simp [World.cell?, e0], RepS.nil _ _ _⟩
  clear hw2
  have HB2 := Lib.hid hB2; clear hB2
  have HR := Lib.hid hR; clear hR
  refine (Fold_any 2 (fun _ => True) tryT (.slice (some ⟨w.heap.size + 1, 0, none⟩) 1 1) w2 ⟨by decide, by decide, Nat.zero_le _, by decide⟩ HR.out).mono ?_
  unfold FoldTopPost
  rw [tryT_fold]
  rintro e w3 ⟨hb3, D, c3, rfl, _, hr3⟩
  obtain ⟨a3, cap3, rfl⟩ := hr3.shape
  have HB3 := Lib.hid (HB2.out.trans (hb3.mono HB2.out.size)); clear hb3 hr3
  simp only [agg, Ex.op, Ex.name, Ex.n, Ex.args]
  go_wp2_with fail
  go_ret
  exact ⟨rfl, HB3.out.alloc HB3.out.size _⟩
end Go.Proofs.Ytekhoanjpnjaeaa

/- The reference's tables: ref09.Get (32), Delete (74), Put (75), Of (37), Same (34). -/
namespace Go.Proofs.Ytekhoanjpnjaeaa
open Go.RowKit

/-- Insertion ahead of the first greater key. -/
def insL : List (Int × Int) → Int → Int → List (Int × Int)
  | [], k, v => [(k, v)]
  | x :: r, k, v => if k < x.1 then (k, v) :: x :: r else x :: insL r k v
theorem insL_take : ∀ (l : List (Int × Int)) (k v : Int) (j : Nat), j ≤ l.length → (∀ i (h : i < l.length), i < j → ¬ k < l[i].1) → insL l k v = l.take j ++ insL (l.drop j) k v
  | l, k, v, 0, _, _ => by simp
  | [], k, v, j + 1, h, _ => by simp at h
  | x :: r, k, v, j + 1, h, hn => by
    have h0 := hn 0 (by simp) (by omega)
    simp only [List.getElem_cons_zero] at h0
    rw [insL, if_neg h0, insL_take r k v j (by simpa using h) (fun i hi hij => by have := hn (i + 1) (by simpa using hi) (by omega); simpa using this)]
    simp
/-- What is written of ref.Put's result after j rounds over D. -/
structure PutInv (D : List (Int × Int)) (k v : Int) (j : Nat) (done : Bool) (O : List (Int × Int)) : Prop where
  yes : done = true → O ++ D.drop j = insL D k v
  no : done = false → O = D.take j ∧ ∀ i (h : i < D.length), i < j → ¬ k < D[i].1
  len : O.length ≤ j + 1
theorem PutInv.start (D : List (Int × Int)) (k v : Int) : PutInv D k v 0 false [] := ⟨(fun h => by cases h), fun _ => ⟨rfl, fun _ _ h => absurd h (Nat.not_lt_zero _)⟩, by simp⟩
theorem PutInv.put {D O : List (Int × Int)} {k v : Int} {j : Nat} (h : PutInv D k v j false O) (hj : j < D.length) (hc : k < D[j].1) : PutInv D k v (j + 1) true (O ++ [(k, v)] ++ [D[j]]) := by
  obtain ⟨h1, h2⟩ := h.no rfl
  have hl : O.length = j := by rw [h1, List.length_take]; omega
  refine ⟨fun _ => ?_, (fun hd => by cases hd), by simp [hl]⟩
  rw [insL_take D k v j (by omega) h2, List.drop_eq_getElem_cons hj, insL, if_pos hc, h1]
  simp
theorem PutInv.fin {D O : List (Int × Int)} {k v : Int} {j : Nat} {d : Bool} (h : PutInv D k v j d O) (hj : ¬ j < D.length) : insL D k v = if d = true then O else O ++ [(k, v)] := by
  cases d with
  | true =>
    have := h.yes rfl
    rw [List.drop_of_length_le (by omega), List.append_nil] at this
    rw [if_pos rfl, this]
  | false =>
    obtain ⟨h1, h2⟩ := h.no rfl
    rw [if_neg (by simp), insL_take D k v D.length (Nat.le_refl _) (fun i hi _ => h2 i hi (by omega)), List.drop_length, List.take_length, h1, List.take_of_length_le (show D.length ≤ j by omega)]
    rfl

theorem ofL_len (l : List (Int × Int)) : (ofL l).length ≤ l.length := by
  rw [← dist_length]; exact distL_le l
end Go.Proofs.Ytekhoanjpnjaeaa

