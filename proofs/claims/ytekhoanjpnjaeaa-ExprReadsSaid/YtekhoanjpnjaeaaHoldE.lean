/- A row of entries in memory that is written in place; table.Of's closure (78); slices.swapRangeCmpFunc (158). -/
import Derived.Test.YtekhoanjpnjaeaaStab
import Derived.RegionTactic
import Derived.ChangeAlike
import Derived.Laws.IdiomCopy
namespace Go.Proofs.Ytekhoanjpnjaeaa
open Go.RowKit Go.Sort

/-- The entries d lie in block B from off on, and may be written. -/
def HoldE (w : World) (B off : Nat) (d : Array (Int × Int)) : Prop :=
  ∀ i, i < d.size → w.cell? ⟨B, off + i * 2, none⟩ = some (.int .i64 d[i]!.1) ∧ w.cell? ⟨B, off + i * 2 + 1, none⟩ = some (.int .i64 d[i]!.2) ∧ w.frozen? ⟨B, off + i * 2, none⟩ = false ∧ w.frozen? ⟨B, off + i * 2 + 1, none⟩ = false
theorem HoldE.keep {w w' : World} {B off : Nat} {d : Array (Int × Int)} (h : HoldE w B off d) (hw : w'.heap[B]? = w.heap[B]?) : HoldE w' B off d := fun i hi => by
  obtain ⟨h1, h2, h3, h4⟩ := h i hi
  exact ⟨(World.cell?_of_block (w := w) hw).trans h1, (World.cell?_of_block (w := w) hw).trans h2, (World.frozen?_of_block (w := w) hw).trans h3, (World.frozen?_of_block (w := w) hw).trans h4⟩
theorem HoldE.lt {w : World} {B off : Nat} {d : Array (Int × Int)} (h : HoldE w B off d) (hd : 0 < d.size) : B < w.heap.size := cell_lt (h 0 hd).1
theorem setCell_eq {w : World} {B x : Nat} {u v : Value} (h : w.cell? ⟨B, x, none⟩ = some v) : (w.setCell ⟨B, x, none⟩ u).cell? ⟨B, x, none⟩ = some u := World.cell?_setCell_same _ _ _ h
theorem setCell_neq {w : World} {B x y : Nat} {u : Value} (h : x ≠ y) : (w.setCell ⟨B, x, none⟩ u).cell? ⟨B, y, none⟩ = w.cell? ⟨B, y, none⟩ := World.cell?_setCell_other _ _ _ _ (by intro e; cases e; exact h rfl)
/-- Two neighbouring cells are written. -/
def set2 (w : World) (B o : Nat) (a b : Value) : World := (w.setCell ⟨B, o, none⟩ a).setCell ⟨B, o + 1, none⟩ b
theorem set2_cell {w : World} {B off : Nat} {d : Array (Int × Int)} (h : HoldE w B off d) {i : Nat} (hi : i < d.size) (x : Int × Int) : HoldE (set2 w B (off + i * 2) (.int .i64 x.1) (.int .i64 x.2)) B off (d.setIfInBounds i x) := by
  intro j hj
  have hj' : j < d.size := by simpa using hj
  obtain ⟨h1, h2, h3, h4⟩ := h j hj'
  unfold set2
  refine ⟨?_, ?_, by rw [World.frozen?_setCell, World.frozen?_setCell]; exact h3, by rw [World.frozen?_setCell, World.frozen?_setCell]; exact h4⟩
  · rw [setCell_neq (by omega)]
    by_cases e : j = i
    · subst e
      rw [setCell_eq h1]; simp [hj']
    · rw [setCell_neq (by omega), h1]
      simp [hj', Ne.symm e]
  · by_cases e : j = i
    · subst e
      rw [setCell_eq (v := .int .i64 d[j]!.2) (by rw [setCell_neq (by omega)]; exact h2)]; simp [hj']
    · rw [setCell_neq (by omega), setCell_neq (by omega), h2]
      simp [hj', Ne.symm e]
theorem set2_grown (w : World) (B o : Nat) (a b : Value) : w.grownBy (set2 w B o a b) (some B) :=
  ⟨rfl, rfl, rfl, by simp [set2, World.setCell], fun k _ hne => by
    have hk : k ≠ B := fun e => hne (by rw [e])
    unfold set2
    rw [Below.heap_setCell _ _ _ _ hk, Below.heap_setCell _ _ _ _ hk]⟩
/-- Two entries change places. -/
theorem swap_holds {w : World} {B off : Nat} {d : Array (Int × Int)} (h : HoldE w B off d) {i j : Nat} (hi : i < d.size) (hj : j < d.size) :
    HoldE (set2 (set2 w B (off + i * 2) (.int .i64 d[j]!.1) (.int .i64 d[j]!.2)) B (off + j * 2) (.int .i64 d[i]!.1) (.int .i64 d[i]!.2)) B off (swp d i j) := by
  unfold swp
  exact set2_cell (set2_cell h hi d[j]!) (by simpa using hj) d[i]!
/-- The world behind an exchange. -/
def swW (w : World) (B off i j : Nat) (x y : Int × Int) : World := (set2 (set2 w B (off + i * 2) (.int .i64 y.1) (.int .i64 y.2)) B (off + j * 2) (.int .i64 x.1) (.int .i64 x.2)).drew
theorem swW_holds {w : World} {B off : Nat} {d : Array (Int × Int)} (h : HoldE w B off d) {i j : Nat} (hi : i < d.size) (hj : j < d.size) : HoldE (swW w B off i j d[i]! d[j]!) B off (swp d i j) := by
  unfold swW
  exact HoldE.keep (swap_holds h hi hj) rfl
theorem grownBy_trans {a b c : World} {r : Option Nat} (h : a.grownBy b r) (k : b.grownBy c r) : a.grownBy c r :=
  ⟨k.os.trans h.os, k.tape.trans h.tape, k.output.trans h.output, Nat.le_trans h.size k.size, fun i hi hr => (k.block i (Nat.lt_of_lt_of_le hi h.size) hr).trans (h.block i hi hr)⟩
theorem grownBy_drew (w : World) (r : Option Nat) : w.grownBy w.drew r := ⟨rfl, rfl, rfl, Nat.le_refl _, fun _ _ _ => rfl⟩
theorem grownBy_drewN (w : World) (n : Nat) (r : Option Nat) : w.grownBy (w.drewN n) r := ⟨rfl, rfl, rfl, Nat.le_refl _, fun _ _ _ => rfl⟩

theorem swW_grown {w0 w : World} {B : Nat} (h : w0.grownBy w (some B)) (off i j : Nat) (x y : Int × Int) : w0.grownBy (swW w B off i j x y) (some B) :=
  grownBy_trans (grownBy_trans h (set2_grown _ _ _ _ _)) (grownBy_trans (set2_grown _ _ _ _ _) (grownBy_drew _ _))
theorem grownBy_alloc2 (w : World) (o o' : Obj) (r : Option Nat) : w.grownBy ((w.alloc o).alloc o') r := grownBy_trans (World.grownBy_alloc w o r) (World.grownBy_alloc _ o' r)

/-- A world with more blocks. -/
def More (w w' : World) : Prop := w.grownBy w' none
theorem More.cell {w w' : World} (h : More w w') {b o : Nat} {v : Value} (hc : w.cell? ⟨b, o, none⟩ = some v) : w'.cell? ⟨b, o, none⟩ = some v := World.grownBy.cell h hc (by simp)
theorem More.block {w w' : World} (h : More w w') {b : Nat} (hb : b < w.heap.size) : w'.heap[b]? = w.heap[b]? := World.grownBy.block h b hb (by simp)
theorem More.frozen {w w' : World} (h : More w w') {b o : Nat} (hb : b < w.heap.size) (hf : w.frozen? ⟨b, o, none⟩ = false) : w'.frozen? ⟨b, o, none⟩ = false := (World.frozen?_of_block (w := w) (h.block hb)).trans hf
theorem More.below {w w' : World} (h : More w w') : Below w.heap.size w w' := ⟨h.os, h.tape, h.output, h.size, fun _k hk => h.block hk⟩
theorem grownBy_more {w0 w w' : World} {r : Option Nat} (h : w0.grownBy w r) (k : More w w') : w0.grownBy w' r :=
  grownBy_trans h ⟨k.os, k.tape, k.output, k.size, fun _i hi _ => k.block hi⟩
theorem more_drew (w : World) : More w w.drew := grownBy_drew w none
theorem more_trans {a b c : World} (h : More a b) (k : More b c) : More a c := grownBy_trans h k

theorem cmp78 (x y : Int × Int) (w : World) : Calls Try.prog 78 #[.agg #[.int .i64 x.1, .int .i64 x.2], .agg #[.int .i64 y.1, .int .i64 y.2]] w fun e w' => e = .returned (.int .i64 (cmpI x.1 y.1)) ∧ More w w' := by
  go_enter Try.func78, Try.ntmps78
  go_wp2_with fail
  refine (compare_any _ _ _).mono ?_
  rintro e w1 ⟨rfl, rfl⟩
  go_wp2_with fail
  go_ret
  exact ⟨rfl, grownBy_alloc2 _ _ _ _⟩
theorem more_of {w w' : World} (h : Below w.heap.size w w') : More w w' := ⟨h.os, h.tape, h.output, h.size, fun k hk _ => h.block k hk⟩
end Go.Proofs.Ytekhoanjpnjaeaa
