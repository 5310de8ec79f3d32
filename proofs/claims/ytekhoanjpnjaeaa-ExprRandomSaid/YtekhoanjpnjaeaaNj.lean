/- Texts Build, laid together. -/
import Derived.Deep.DeepCutAuto
import Derived.Test.YtekhoanjpnjaeaaNh
import Derived.Test.YtekhoanjpnjaeaaNi
/- The contracts of ref06.build and Build. -/
namespace Go.Proofs.Ytekhoanjpnjaeaa
open Go.RowKit

structure Nd where
  op : Int
  name : Int
  count : Int
  odd : Bool
  n : Int
structure Nd.Ok (x : Nd) : Prop where
  op : 0 ≤ x.op ∧ x.op ≤ 255
  name : 0 ≤ x.name ∧ x.name ≤ 255
  count : 0 ≤ x.count ∧ x.count ≤ 255
  n : In64 x.n
def flat5 : List Nd → List Value
  | [] => []
  | x :: xs => .int .u8 x.op :: .int .u8 x.name :: .int .u8 x.count :: .bool x.odd :: .int .i64 x.n :: flat5 xs
def nName1 (x : Nd) : ByteArray := if 5 ≤ x.op % 24 ∧ x.op % 24 ≤ 8 then wordV x.name else ByteArray.empty
def nN1 (x : Nd) : Int := if x.op % 24 = 1 then x.n else 0
def nName (x : Nd) : ByteArray := if x.odd = true ∧ x.count % 5 = 0 then wordV x.name else nName1 x
def nN (x : Nd) : Int := if x.odd = true ∧ x.count % 5 = 0 then x.n else nN1 x
def nCnt (x : Nd) : Nat := if x.odd = true then (x.count % 4).toNat else (opnd (x.op % 24)).toNat
def iterS (g : List Nd → Ex × List Nd) : Nat → List Nd → List Ex × List Nd
  | 0, l => ([], l)
  | k + 1, l => ((iterS g k l).1 ++ [(g (iterS g k l).2).1], (g (iterS g k l).2).2)
def leafE : Ex := .node 1 ByteArray.empty 0 []
def bldF : Nat → List Nd → Ex × List Nd
  | 0, l => (leafE, l)
  | _ + 1, [] => (leafE, [])
  | f + 1, x :: l => (.node (x.op % 24) (nName x) (nN x) (iterS (bldF f) (nCnt x) l).1, (iterS (bldF f) (nCnt x) l).2)
/-- The world where the node's fields are being set: N the result, N + 1 the node, N + 2 the expression. -/
structure BInv (w : World) (x : Nd) (name : ByteArray) (n : Int) (wx : World) : Prop where
  below : Below w.heap.size w wx
  size : w.heap.size + 1 + 1 + 1 ≤ wx.heap.size
  res : wx.heap[w.heap.size]? = some (.cells #[.int .i64 0, .string ⟨#[]⟩, .int .i64 0, .slice none 0 0] 36)
  bx : wx.heap[w.heap.size + 1]? = some (.cells #[.int .u8 x.op, .int .u8 x.name, .int .u8 x.count, .bool x.odd, .int .i64 x.n] 208)
  be : wx.heap[w.heap.size + 1 + 1]? = some (.cells #[.int .i64 (x.op % 24), .string name, .int .i64 n, .slice none 0 0] 36)
theorem BInv.more {w wx w' : World} {x : Nd} {name : ByteArray} {n : Int} (h : BInv w x name n wx) (hb : Below wx.heap.size wx w') : BInv w x name n w' := by
  have hs := h.size
  exact ⟨h.below.trans (hb.mono h.below.size), Nat.le_trans hs hb.size, (hb.block _ (by omega)).trans h.res, (hb.block _ (by omega)).trans h.bx, (hb.block _ (by omega)).trans h.be⟩
theorem BInv.start (w : World) (x : Nd) : BInv w x ByteArray.empty x.n (((w.alloc (.cells #[.int .i64 0, .string ⟨#[]⟩, .int .i64 0, .slice none 0 0] 36)).alloc (.cells #[.int .u8 x.op, .int .u8 x.name, .int .u8 x.count, .bool x.odd, .int .i64 x.n] 208)).alloc (.cells #[.int .i64 (x.op % 24), .string ⟨#[]⟩, .int .i64 x.n, .slice none 0 0] 36)) := by
  refine ⟨(((Below.refl _ _).alloc (Nat.le_refl _) _).alloc (by simp) _).alloc (by simp; omega) _, by simp, ?_, ?_, ?_⟩
  · rw [Below.heap_alloc _ _ _ (by simp; omega), Below.heap_alloc _ _ _ (by simp)]; exact alloc_last _ _
  · rw [Below.heap_alloc _ _ _ (by simp)]; exact alloc_at _ _ (by simp)
  · exact alloc_at _ _ (by simp)

/-- The world at the head of build's loop: k operands are made. -/
structure LInv (w : World) (S : Nat → Prop) (x : Nd) (l : List Nd) (f k : Nat) (lv : Value) (wr : World) : Prop where
  below : Below w.heap.size w wr
  size : w.heap.size + 1 + 1 + 1 ≤ wr.heap.size
  res : wr.heap[w.heap.size]? = some (.cells #[.int .i64 0, .string ⟨#[]⟩, .int .i64 0, .slice none 0 0] 36)
  out : ∃ sv, wr.heap[w.heap.size + 1 + 1]? = some (.cells #[.int .i64 (x.op % 24), .string (nName x), .int .i64 (nN x), sv] 36) ∧ Grow .i64 36 (w.heap.size + 1 + 1 + 1) wr f sv (iterS (bldF f) k l).1
  rest : Row (fun z => S z ∧ z < w.heap.size) wr 5 (iterS (bldF f) k l).2.length lv (flat5 (iterS (bldF f) k l).2)

theorem LInv.more {w wr w' : World} {S : Nat → Prop} {x : Nd} {l : List Nd} {f k : Nat} {lv : Value} (h : LInv w S x l f k lv wr) (hb : Below wr.heap.size wr w') : LInv w S x l f k lv w' := by
  have hs := h.size
  obtain ⟨sv, h1, h2⟩ := h.out
  exact ⟨h.below.trans (hb.mono h.below.size), Nat.le_trans hs hb.size, (hb.block _ (by omega)).trans h.res, ⟨sv, (hb.block _ (by omega)).trans h1, h2.keep (fun x _ hx => hb.block x hx)⟩, h.rest.below hb⟩
theorem LInv.step {w wr w2 : World} {S : Nat → Prop} {x : Nd} {l : List Nd} {f k : Nat} {lv lv' : Value} {sv sv' : Value} {o : Obj} (hI : LInv w S x l f k lv wr)
    (hsv : wr.heap[w.heap.size + 1 + 1]? = some (.cells #[.int .i64 (x.op % 24), .string (nName x), .int .i64 (nN x), sv] 36))
    (hg : (wr.alloc o).grownBy w2 sv.ownBlock) (hgrow : Grow .i64 36 (w.heap.size + 1 + 1 + 1) w2 f sv' ((iterS (bldF f) k l).1 ++ [(bldF f (iterS (bldF f) k l).2).1])) (hon : ∀ y, sv.ownBlock = some y → w.heap.size + 1 + 1 + 1 ≤ y)
    (hr : Row (fun z => S z ∧ z < w.heap.size) wr 5 (bldF f (iterS (bldF f) k l).2).2.length lv' (flat5 (bldF f (iterS (bldF f) k l).2).2)) :
    LInv w S x l f (k + 1) lv' (w2.setCell ⟨w.heap.size + 1 + 1, 3, none⟩ sv') := by
  have hs := hI.size
  have e2 : ∀ y, y < wr.heap.size → y < w.heap.size + 1 + 1 + 1 → w2.heap[y]? = wr.heap[y]? := by
    intro y hy hy'
    rw [hg.block y (by rw [World.size_alloc]; omega) (fun e => by have := hon y e.symm; omega)]
    exact Below.heap_alloc _ _ _ hy
  have hs2 : wr.heap.size ≤ w2.heap.size := by have := hg.size; rw [World.size_alloc] at this; omega
  have hss : (w2.setCell ⟨w.heap.size + 1 + 1, 3, none⟩ sv').heap.size = w2.heap.size := by simp [World.setCell]
  refine ⟨⟨hg.os.trans hI.below.os, hg.tape.trans hI.below.tape, hg.output.trans hI.below.output, by rw [hss]; have := hI.below.size; omega, fun y hy => ?_⟩, by rw [hss]; omega, ?_, ⟨sv', ?_, ?_⟩, ?_⟩
  · rw [Below.heap_setCell _ _ _ _ (show y ≠ w.heap.size + 1 + 1 by omega), e2 y (by omega) (by omega)]; exact hI.below.block y hy
  · rw [Below.heap_setCell _ _ _ _ (show w.heap.size ≠ w.heap.size + 1 + 1 by omega), e2 _ (by omega) (by omega)]; exact hI.res
  · rw [heap_setCell_same _ _ _ _ _ _ ((e2 _ (by omega) (by omega)).trans hsv)]; rfl
  · exact hgrow.keep (fun y hy _ => Below.heap_setCell _ _ _ _ (show y ≠ w.heap.size + 1 + 1 by omega))
  · refine hr.mono (fun _ h => h) (fun b o v hb hv => ?_)
    rw [cell_set_far (show b ≠ w.heap.size + 1 + 1 by omega), World.cell?_of_block (w := wr) (a := ⟨b, o, none⟩) (e2 b (cell_lt hv) (by omega))]; exact hv

end Go.Proofs.Ytekhoanjpnjaeaa

