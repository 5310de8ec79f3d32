/- Folding, as a function on trees; and the memory of expr.fold's loop. -/
import Derived.Test.YtekhoanjpnjaeaaOpen
import Derived.Test.YtekhoanjpnjaeaaConst
import Derived.Test.YtekhoanjpnjaeaaFormed
namespace Go.Proofs.Ytekhoanjpnjaeaa
open Go.RowKit

def foldV (op : Int) (vs : List Int) : Int := if vs.length = 1 then (unV op (vs[0]?.getD 0)).1 else (binV op (vs[0]?.getD 0) (vs[1]?.getD 0)).1
def allC (l : List Ex) : Bool := l.all fun a => (constV a).2
def valsC (l : List Ex) : List Int := l.map fun a => (constV a).1
def foldN (op : Int) (name : ByteArray) (n : Int) (l : List Ex) : Ex :=
  if (decide (9 ≤ op) && allC l) = true then (if foldV op (valsC l) = -9223372036854775808 then .node op name n l else litT op (foldV op (valsC l))) else .node op name n l
mutual
def foldT : Ex → Ex | .node op name n args => foldN op name n (foldL args)
def foldL : List Ex → List Ex | [] => [] | t :: ts => foldT t :: foldL ts
end
theorem foldL_map (l : List Ex) : foldL l = l.map foldT := by
  induction l with
  | nil => rfl
  | cons t ts ih => simp [foldL, ih]
theorem foldT_eq (t : Ex) : foldT t = foldN t.op t.name t.n (t.args.map foldT) := by
  obtain ⟨op, name, n, args⟩ := t
  rw [foldT, foldL_map]; rfl
theorem formedL_iff (l : List Ex) : Ex.formedL l = true ↔ ∀ t ∈ l, t.formed = true := by
  induction l with
  | nil => simp [Ex.formedL]
  | cons t ts ih => simp [Ex.formedL, ih]
theorem formed_args {t : Ex} (h : t.formed = true) : (t.args.length : Int) = opnd t.op ∧ ∀ a ∈ t.args, a.formed = true := by
  rw [t.formed_eq] at h
  simp only [Bool.and_eq_true, decide_eq_true_eq] at h
  exact ⟨h.1, (formedL_iff _).1 h.2⟩
theorem litT_nine (op v : Int) : (litT op v).op = 9 → (litT op v).args ≠ [] := by
  unfold litT
  repeat' split
  all_goals simp [Ex.op, Ex.args]
theorem opnd_nine : opnd 9 = 1 := by decide
theorem foldT_nine {t : Ex} (h : t.formed = true) : (foldT t).op = 9 → (foldT t).args ≠ [] := by
  obtain ⟨hl, _⟩ := formed_args h
  have hn : (Ex.node t.op t.name t.n (t.args.map foldT)).op = 9 → (Ex.node t.op t.name t.n (t.args.map foldT)).args ≠ [] := by
    intro h9 he
    have h9' : t.op = 9 := h9
    rw [h9', opnd_nine] at hl
    have he' : t.args.map foldT = [] := he
    have := congrArg List.length he'
    simp at this
    rw [this] at hl
    simp at hl
  rw [foldT_eq]
  unfold foldN
  split
  · split
    · exact hn
    · exact litT_nine _ _
  · exact hn
theorem litT_flds (op v : Int) (h0 : -9223372036854775808 ≤ v) (h1 : v ≤ 9223372036854775807) : Flds .u8 (litT op v) := by
  have wfv : (Lit.int .i64 v).wf = true := by
    simp [Lit.wf, IntKind.min, IntKind.max, IntKind.signed, IntKind.bits]; omega
  have e : (ByteArray.empty).size ≤ maxLen := Nat.zero_le _
  unfold litT
  repeat' split
  · exact ⟨show (Lit.int .u8 9).wf = true by decide, show (Lit.int .i64 0).wf = true by decide, e, show 1 < 4294967296 by decide⟩
  · exact ⟨show (Lit.int .u8 1).wf = true by decide, wfv, e, show 0 < 4294967296 by decide⟩
  · exact ⟨show (Lit.int .u8 2).wf = true by decide, show (Lit.int .i64 0).wf = true by decide, e, show 0 < 4294967296 by decide⟩
  · exact ⟨show (Lit.int .u8 3).wf = true by decide, show (Lit.int .i64 0).wf = true by decide, e, show 0 < 4294967296 by decide⟩
theorem tr_range (b : Bool) : 0 ≤ tr b ∧ tr b ≤ 1 := by cases b <;> decide
theorem unV_range (op a : Int) : -9223372036854775808 ≤ (unV op a).1 ∧ (unV op a).1 ≤ 9223372036854775807 := by
  unfold unV; have := w64_range (-a); have := tr_range (a == 0)
  repeat' split
  all_goals (simp; try omega)
theorem tmod_range (a b : Int) (h0 : -9223372036854775808 ≤ a) (h1 : a ≤ 9223372036854775807) : -9223372036854775808 ≤ a.tmod b ∧ a.tmod b ≤ 9223372036854775807 := by
  have h : (a.tmod b).natAbs ≤ a.natAbs := by rw [Int.natAbs_tmod]; exact Nat.mod_le _ _
  by_cases hz : 0 ≤ a
  · have := Int.tmod_nonneg b hz; omega
  · have : a.tmod b ≤ 0 := by
      have := Int.tmod_nonneg (a := -a) b (by omega)
      rw [Int.neg_tmod] at this; omega
    omega
theorem binV_range (op a b : Int) (h0 : -9223372036854775808 ≤ a) (h1 : a ≤ 9223372036854775807) : -9223372036854775808 ≤ (binV op a b).1 ∧ (binV op a b).1 ≤ 9223372036854775807 := by
  have t1 := w64_range (a * b); have t2 := w64_range (a + b); have t3 := w64_range (a - b); have t4 := w64_range (-a); have t5 := w64_range (a.tdiv b); have t6 := tmod_range a b h0 h1
  have u : ∀ c, -9223372036854775808 ≤ tr c ∧ tr c ≤ 9223372036854775807 := fun c => by have := tr_range c; omega
  have d : ∀ o, -9223372036854775808 ≤ divV o a b ∧ divV o a b ≤ 9223372036854775807 := by
    intro o; unfold divV
    repeat' split
    all_goals (first | exact t4 | exact t5 | exact t6 | omega)
  rcases bin_cases op with rfl | rfl | rfl | rfl | rfl | rfl | rfl | rfl | rfl | rfl | rfl | rfl | rfl | h
  · exact t1
  · exact d 12
  · exact d 13
  · exact t2
  · exact t3
  iterate 8 exact u _
  · rw [binV_out h]; exact ⟨by decide, by decide⟩
theorem constV_range {t : Ex} (hf : (Lit.int .i64 t.n).wf = true) : -9223372036854775808 ≤ (constV t).1 ∧ (constV t).1 ≤ 9223372036854775807 := by
  have := wf64 hf
  unfold constV
  repeat' split
  all_goals (first | exact this | exact w64_range _ | exact ⟨by decide, by decide⟩)

/-- Blocks of X may have changed, and of block b the cells from lo on, below hi. -/
structure Chg (w w' : World) (X : Nat → Prop) (b lo hi : Nat) : Prop where
  os : w'.os = w.os
  tape : w'.tape = w.tape
  output : w'.output = w.output
  size : w.heap.size ≤ w'.heap.size
  block : ∀ x, x < w.heap.size → x ≠ b → ¬ X x → w'.heap[x]? = w.heap[x]?
  cell : ∀ o, (o < lo ∨ hi ≤ o) → w'.cell? ⟨b, o, none⟩ = w.cell? ⟨b, o, none⟩
  frozen : ∀ o, w'.frozen? ⟨b, o, none⟩ = w.frozen? ⟨b, o, none⟩

structure FoldInv (w : World) (t : Ex) (d b off : Nat) (m : Nat → Nat) (k : Nat) (wr : World) : Prop where
  chg : Chg w wr (fun x => m 0 ≤ x ∧ x < m k) b off (off + k * 4)
  size : w.heap.size + 1 ≤ wr.heap.size
  vals : wr.heap[w.heap.size]? = some (.cells #[.int .i64 ((valsC ((t.args.take k).map foldT))[0]?.getD 0), .int .i64 ((valsC ((t.args.take k).map foldT))[1]?.getD 0)] 66)
  done : ∀ i, i < k → ∀ (h : i < t.args.length), RepAt .u8 (fun x => (m i ≤ x ∧ x < m (i + 1)) ∨ w.heap.size + 1 ≤ x) wr (d + 1) (foldT t.args[i]) b (off + i * 4)

theorem Chg.cellOf {w w' : World} {X : Nat → Prop} {b lo hi : Nat} (h : Chg w w' X b lo hi) {x o : Nat} (hx : x < w.heap.size) (hb : x ≠ b) (hX : ¬ X x) : w'.cell? ⟨x, o, none⟩ = w.cell? ⟨x, o, none⟩ :=
  World.cell?_of_block (w := w) (h.block x hx hb hX)
theorem Chg.frozenOf {w w' : World} {X : Nat → Prop} {b lo hi : Nat} (h : Chg w w' X b lo hi) {x o : Nat} (hx : x < w.heap.size) (hb : x ≠ b) (hX : ¬ X x) : w'.frozen? ⟨x, o, none⟩ = w.frozen? ⟨x, o, none⟩ :=
  World.frozen?_of_block (w := w) (h.block x hx hb hX)
theorem Chg.trans {w w1 w2 : World} {X Y Z : Nat → Prop} {b lo mi hi : Nat} (h : Chg w w1 X b lo mi) (k : Chg w1 w2 Y b mi hi) (hX : ∀ x, X x → Z x) (hY : ∀ x, Y x → Z x) (h1 : lo ≤ mi) (h2 : mi ≤ hi) : Chg w w2 Z b lo hi :=
  ⟨k.os.trans h.os, k.tape.trans h.tape, k.output.trans h.output, Nat.le_trans h.size k.size,
   fun x hx hb hz => (k.block x (Nat.lt_of_lt_of_le hx h.size) hb (fun y => hz (hY x y))).trans (h.block x hx hb (fun y => hz (hX x y))),
   fun o ho => (k.cell o (by omega)).trans (h.cell o (by omega)), fun o => (k.frozen o).trans (h.frozen o)⟩
/-- A step that only makes blocks, or writes to blocks that are new. -/
theorem Chg.below {w w1 w2 : World} {X : Nat → Prop} {b lo hi : Nat} (h : Chg w w1 X b lo hi) (hb : b < w.heap.size) (k : Below w.heap.size w1 w2) : Chg w w2 X b lo hi :=
  ⟨k.os.trans h.os, k.tape.trans h.tape, k.output.trans h.output, Nat.le_trans h.size k.size,
   fun x hx hn hz => (k.block x hx).trans (h.block x hx hn hz), fun o ho => (k.cell (p := ⟨b, o, none⟩) hb).trans (h.cell o ho), fun o => (k.frozen (p := ⟨b, o, none⟩) hb).trans (h.frozen o)⟩
theorem Chg.of_below {w w2 : World} (X : Nat → Prop) {b lo hi : Nat} (hb : b < w.heap.size) (k : Below w.heap.size w w2) : Chg w w2 X b lo hi :=
  ⟨k.os, k.tape, k.output, k.size, fun x hx _ _ => k.block x hx, fun o _ => k.cell (p := ⟨b, o, none⟩) hb, fun o => k.frozen (p := ⟨b, o, none⟩) hb⟩

theorem getD_take_map (l : List Ex) (k i : Nat) : (valsC ((l.take k).map foldT))[i]?.getD 0 = if i < k then (valsC (l.map foldT))[i]?.getD 0 else 0 := by
  unfold valsC
  rw [List.map_map, List.map_map]
  by_cases h : i < k
  · simp [h]
  · simp [List.getElem?_take, h]

theorem cell_set_far {w : World} {x y b o : Nat} {v : Value} (h : x ≠ b) : (w.setCell ⟨b, o, none⟩ v).cell? ⟨x, y, none⟩ = w.cell? ⟨x, y, none⟩ :=
  World.cell?_of_block (w := w) (Below.heap_setCell _ _ _ _ h)

theorem FoldInv.step {w wr w1 : World} {t : Ex} {d b off lo hi : Nat} {m : Nat → Nat} {k n : Nat} (hk : k < t.args.length) (h2 : t.args.length ≤ 2) (h : FoldInv w t d b off m k wr)
    (hb : b < w.heap.size) (_hlo : lo ≤ b) (hbm : b < m 0) (hmm : ∀ i, i < t.args.length → m i ≤ m (i + 1)) (hmh : m t.args.length ≤ hi) (hhi : hi ≤ w.heap.size)
    (hc : Chg wr w1 (fun x => m k ≤ x ∧ x < m (k + 1)) b (off + k * 4) (off + k * 4 + 4))
    (hr : RepAt .u8 (fun x => (m k ≤ x ∧ x < m (k + 1)) ∨ wr.heap.size ≤ x) w1 (d + 1) (foldT t.args[k]) b (off + k * 4)) :
    FoldInv w t d b off m (k + 1) ((w1.drewN n).setCell ⟨w.heap.size, k, none⟩ (.int .i64 (constV (foldT t.args[k])).1)) := by
  have hmk1 : m (k + 1) ≤ m t.args.length := mono_le hmm (by omega) (Nat.le_refl _)
  have hm0k : m 0 ≤ m k := mono_le hmm (Nat.zero_le _) (by omega)
  have hmk := hmm k hk
  have hs := h.size
  have hv1 : (w1.drewN n).heap[w.heap.size]? = some (.cells #[.int .i64 ((valsC ((t.args.take k).map foldT))[0]?.getD 0), .int .i64 ((valsC ((t.args.take k).map foldT))[1]?.getD 0)] 66) := by
    show w1.heap[w.heap.size]? = _
    rw [hc.block _ (by omega) (by omega) (by show ¬ (m k ≤ w.heap.size ∧ w.heap.size < m (k + 1)); omega)]; exact h.vals
  have hBel : Below w.heap.size w1 ((w1.drewN n).setCell ⟨w.heap.size, k, none⟩ (.int .i64 (constV (foldT t.args[k])).1)) :=
    (below_drewN w1 n _).setCell (p := ⟨w.heap.size, k, none⟩) (Nat.le_refl _) _
  refine ⟨?_, ?_, ?_, ?_⟩
  · have q := (h.chg.trans hc (Z := fun x => m 0 ≤ x ∧ x < m (k + 1)) (fun x hx => ⟨hx.1, by have := hmm k hk; have := hx.2; omega⟩) (fun x hx => ⟨by have := hx.1; omega, hx.2⟩) (by omega) (by omega)).below hb hBel
    rw [show off + (k + 1) * 4 = off + k * 4 + 4 by omega]; exact q
  · have := hc.size
    have e : ((w1.drewN n).setCell ⟨w.heap.size, k, none⟩ (.int .i64 (constV (foldT t.args[k])).1)).heap.size = w1.heap.size := by simp [World.setCell]
    rw [e]; omega
  · rw [heap_setCell_same _ _ _ _ _ _ hv1]
    simp only [getD_take_map]
    have e0 : (valsC (t.args.map foldT))[k]?.getD 0 = (constV (foldT t.args[k])).1 := by
      unfold valsC; rw [List.map_map]; simp [hk]
    rcases (show k = 0 ∨ k = 1 by omega) with rfl | rfl
    · simp [e0]
    · simp [e0]
  · intro i hi hil
    by_cases hik : i < k
    · have hmi1 : m (i + 1) ≤ m k := mono_le hmm (by omega) (by omega)
      have hm0i : m 0 ≤ m i := mono_le hmm (Nat.zero_le _) (by omega)
      refine (h.done i hik hil).mono (fun _ hx => hx) (fun x o v hx hv => ?_) (fun j v hj hv => ?_) (Nat.le_refl _)
      · have hlt := cell_lt hv
        rw [cell_set_far (by omega)]
        show w1.cell? _ = _
        rw [hc.cellOf hlt (by omega) (by show ¬ (m k ≤ x ∧ x < m (k + 1)); omega)]; exact hv
      · rw [cell_set_far (by omega)]
        show w1.cell? _ = _
        rw [hc.cell _ (by omega)]; exact hv
    · have : i = k := by omega
      subst this
      refine hr.mono (fun x hx => by omega) (fun x o v hx hv => ?_) (fun j v hj hv => ?_) (Nat.le_refl _)
      · rw [cell_set_far (by omega)]; exact hv
      · rw [cell_set_far (by omega)]; exact hv
end Go.Proofs.Ytekhoanjpnjaeaa
