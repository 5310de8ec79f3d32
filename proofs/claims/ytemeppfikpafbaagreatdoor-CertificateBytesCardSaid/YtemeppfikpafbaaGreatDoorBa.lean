/- Texts K0, Cmps, Keys, OrdK, KeyOf, Dist, DistM, NilB, ShelfB, Ratio, InvR, InvS, Degree, RankP, RCmp, RankQ, laid together. -/
import Derived.Test.YtemeppfikpafbaaGreatDoorProg
import Derived.Below
import Derived.Deep.Draws
import Derived.Laws.AppendOwn
import Derived.WalkKit
import Derived.WalkLawsBesides
import Derived.WalkSpells
import Derived.Outline
import Derived.Lib.Hide
import Derived.Deep.QuietTactic
import Derived.BigQuiet
import Derived.Deep.RegionHeld3
import Derived.Deep.RegionLaw
import Derived.Deep.AppendLies
import Derived.RegionTactic
import Derived.ChangeAlike
import Derived.Laws.IdiomCopy
import Derived.StillTailTactics
import Derived.Sort.Statements
import Derived.Shelf.SlSortCmp.Insertion
import Derived.Maps.OwnSet
import Derived.Maps.OwnOps
import Derived.DeepKeys4
import Derived.KernelRfl
import Derived.Shelf.Bits.Mul64
import Derived.BigRegion
import Derived.Deep.DeepCutAuto
/- Small facts on worlds and rows: shared by all texts of this seat. -/
namespace Go.Proofs.YtemeppfikpafbaaGreatDoor
open Go.RowKit
theorem cell_lt {w : World} {b off : Nat} {v : Value} (h : w.cell? ⟨b, off, none⟩ = some v) : b < w.heap.size := by
  unfold World.cell? at h
  by_cases hb : b < w.heap.size
  · exact hb
  · simp [Array.getElem?_eq_none (Nat.le_of_not_lt hb)] at h
theorem below_cell {w w' : World} (hB : Below w.heap.size w w') {b off : Nat} {v : Value} (h : w.cell? ⟨b, off, none⟩ = some v) : w'.cell? ⟨b, off, none⟩ = some v := by
  rw [hB.cell (p := ⟨b, off, none⟩) (cell_lt h)]; exact h
theorem below_drewN (w : World) (n : Nat) (B : Nat) : Below B w (w.drewN n) := ⟨rfl, rfl, rfl, Nat.le_refl _, fun _ _ => rfl⟩
theorem owns_shape {w : World} {B : Nat} {e : TypeId} {n size : Nat} {v : Value} {xs : List Value} (h : w.ownsRow B e size v n xs) : ∃ a cap, v = .slice a n cap ∧ (∀ x, v.ownBlock = some x → B ≤ x ∧ x < w.heap.size) := by
  obtain ⟨hl, h | ⟨g, cap, cur, rfl, hB, hg, _, _, _, ht⟩⟩ := h
  · exact ⟨none, 0, by rw [h.1, h.2], fun x hx => by rw [h.1] at hx; simp [Value.ownBlock] at hx⟩
  · refine ⟨_, cap, rfl, fun x hx => ?_⟩
    have : g = x := by simpa [Value.ownBlock] using hx
    subst this
    refine ⟨hB, ?_⟩
    rcases Nat.lt_or_ge g w.heap.size with h | h
    · exact h
    · rw [Array.getElem?_eq_none h] at hg; cases hg
theorem owns_keep {w w' : World} {B : Nat} {e : TypeId} {n size : Nat} {v : Value} {xs : List Value} (h : w.ownsRow B e size v n xs) (hb : ∀ x, v.ownBlock = some x → w'.heap[x]? = w.heap[x]?) : w'.ownsRow B e size v n xs := by
  obtain ⟨hl, h | ⟨g, cap, cur, rfl, hB, hg, r⟩⟩ := h
  · exact ⟨hl, Or.inl h⟩
  · exact ⟨hl, Or.inr ⟨g, cap, cur, rfl, hB, by rw [hb g rfl]; exact hg, r⟩⟩
/-- The slice value v has n elements of 'size' cells each, which are xs. -/
def Row (S : Nat → Prop) (w : World) (size n : Nat) (v : Value) (xs : List Value) : Prop :=
  xs.length = n * size ∧ ∃ a cap, v = .slice a n cap ∧ n ≤ cap ∧ (n ≠ 0 → ∃ b off, a = some ⟨b, off, none⟩ ∧ S b ∧ ∀ j u, xs[j]? = some u → w.cell? ⟨b, off + j, none⟩ = some u)
theorem Row.shape {S : Nat → Prop} {w : World} {size n : Nat} {v : Value} {xs : List Value} (h : Row S w size n v xs) : ∃ a cap, v = .slice a n cap ∧ n ≤ cap := by
  obtain ⟨_, a, cap, rfl, hc, _⟩ := h; exact ⟨a, cap, rfl, hc⟩
theorem Row.at {S : Nat → Prop} {w : World} {size n len cap : Nat} {a : Option Addr} {xs : List Value} (h : Row S w size n (.slice a len cap) xs) (hn : n ≠ 0) :
    ∃ b off, a = some ⟨b, off, none⟩ ∧ len = n ∧ S b ∧ ∀ j u, xs[j]? = some u → w.cell? ⟨b, off + j, none⟩ = some u := by
  obtain ⟨_, a', cap', he, _, hr⟩ := h
  cases he
  obtain ⟨b, off, rfl, hS, hc⟩ := hr hn
  exact ⟨b, off, rfl, rfl, hS, hc⟩
theorem Row.nil (S : Nat → Prop) (w : World) (size : Nat) (a : Option Addr) (cap : Nat) : Row S w size 0 (.slice a 0 cap) [] :=
  ⟨by simp, a, cap, rfl, Nat.zero_le _, fun h => absurd rfl h⟩
theorem Row.mono2 {S S' : Nat → Prop} {w w' : World} {size n : Nat} {v : Value} {xs : List Value} (hs : 0 < size) (hw : ∀ b off u, S b → w.cell? ⟨b, off, none⟩ = some u → S' b ∧ w'.cell? ⟨b, off, none⟩ = some u) (h : Row S w size n v xs) : Row S' w' size n v xs := by
  obtain ⟨hl, a, cap, rfl, hc, hr⟩ := h
  refine ⟨hl, a, cap, rfl, hc, fun hn => ?_⟩
  obtain ⟨b, off, rfl, hS, hcell⟩ := hr hn
  have h0 : 0 < xs.length := by rw [hl]; exact Nat.mul_pos (by omega) hs
  exact ⟨b, off, rfl, (hw _ _ _ hS (hcell 0 xs[0] (List.getElem?_eq_getElem h0))).1, fun j u hj => (hw _ _ _ hS (hcell j u hj)).2⟩
theorem Row.mono {S S' : Nat → Prop} {w w' : World} {size n : Nat} {v : Value} {xs : List Value} (hS : ∀ b, S b → S' b) (hw : ∀ b off u, S b → w.cell? ⟨b, off, none⟩ = some u → w'.cell? ⟨b, off, none⟩ = some u) (h : Row S w size n v xs) : Row S' w' size n v xs := by
  obtain ⟨hl, a, cap, rfl, hc, hr⟩ := h
  refine ⟨hl, a, cap, rfl, hc, fun hn => ?_⟩
  obtain ⟨b, off, rfl, hb, hcell⟩ := hr hn
  exact ⟨b, off, rfl, hS b hb, fun j u hj => hw _ _ _ hb (hcell j u hj)⟩
theorem Row.below {S : Nat → Prop} {w w' : World} {size n : Nat} {v : Value} {xs : List Value} (hB : Below w.heap.size w w') (h : Row S w size n v xs) : Row S w' size n v xs :=
  h.mono (fun _ h => h) (fun _ _ _ _ h => below_cell hB h)
/-- A row that append has made. -/
theorem Row.of_owns {w : World} {B : Nat} {e : TypeId} {n size : Nat} {v : Value} {xs : List Value} (h : w.ownsRow B e size v n xs) : Row (fun x => B ≤ x) w size n v xs := by
  obtain ⟨hl, h | ⟨g, cap, cur, rfl, hB, hg, hnc, _, _, ht⟩⟩ := h
  · obtain ⟨rfl, rfl⟩ := h
    have : xs = [] := by simpa using hl
    subst this
    exact Row.nil _ _ _ _ _
  · refine ⟨hl, _, cap, rfl, hnc, fun _ => ⟨g, 0, rfl, hB, fun j u hj => ?_⟩⟩
    simp only [World.cell?, hg, Nat.zero_add]
    rw [← ht, List.getElem?_take] at hj
    split at hj
    · simpa using hj
    · cases hj
/-- What is left behind the first k elements. -/
theorem Row.drop {S : Nat → Prop} {w : World} {size n cap k : Nat} {b off : Nat} {xs : List Value} (h : Row S w size n (.slice (some ⟨b, off, none⟩) n cap) xs) (hk : k ≤ n) :
    Row S w size (n - k) (.slice (some ⟨b, off + k * size, none⟩) (n - k) (cap - k)) (xs.drop (k * size)) := by
  obtain ⟨hl, a, cap', he, hc, hr⟩ := h
  cases he
  refine ⟨by rw [List.length_drop, hl, Nat.sub_mul], _, _, rfl, by omega, fun hn => ?_⟩
  obtain ⟨b', off', he', hS, hcell⟩ := hr (by omega)
  cases he'
  refine ⟨b, off + k * size, rfl, hS, fun j u hj => ?_⟩
  rw [List.getElem?_drop] at hj
  rw [Nat.add_assoc]
  exact hcell _ _ hj
theorem thaw {w : World} {M : Nat} {arr : Array Value} {ty : TypeId} (h : w.heap[M]? = some (.cells arr ty)) (o : Nat) : w.frozen? ⟨M, o, none⟩ = false := by
  simp [World.frozen?, h]
theorem alloc_last (w : World) (o : Obj) : (w.alloc o).heap[w.heap.size]? = some o := by
  show (w.heap.push o)[w.heap.size]? = _
  simp
theorem alloc_at (w : World) (o : Obj) {n : Nat} (h : n = w.heap.size) : (w.alloc o).heap[n]? = some o := by subst h; exact alloc_last w o
theorem Row.take {S : Nat → Prop} {w : World} {size n cap k : Nat} {a : Option Addr} {xs : List Value} (h : Row S w size n (.slice a n cap) xs) (hk : k ≤ n) : Row S w size k (.slice a k cap) (xs.take (k * size)) := by
  obtain ⟨hl, a', cap', he, hc, hr⟩ := h
  cases he
  refine ⟨by rw [List.length_take, hl]; exact Nat.min_eq_left (Nat.mul_le_mul_right _ hk), _, _, rfl, by omega, fun hn => ?_⟩
  obtain ⟨b, off, rfl, hS, hcell⟩ := hr (by omega)
  refine ⟨b, off, rfl, hS, fun j u hj => ?_⟩
  rw [List.getElem?_take] at hj
  split at hj
  · exact hcell _ _ hj
  · cases hj
theorem setCell_eq {w : World} {B x : Nat} {u v : Value} (h : w.cell? ⟨B, x, none⟩ = some v) : (w.setCell ⟨B, x, none⟩ u).cell? ⟨B, x, none⟩ = some u := World.cell?_setCell_same _ _ _ h
theorem setCell_neq {w : World} {B x y : Nat} {u : Value} (h : x ≠ y) : (w.setCell ⟨B, x, none⟩ u).cell? ⟨B, y, none⟩ = w.cell? ⟨B, y, none⟩ := World.cell?_setCell_other _ _ _ _ (by intro e; cases e; exact h rfl)
theorem grownBy_trans {a b c : World} {r : Option Nat} (h : a.grownBy b r) (k : b.grownBy c r) : a.grownBy c r :=
  ⟨k.os.trans h.os, k.tape.trans h.tape, k.output.trans h.output, Nat.le_trans h.size k.size, fun i hi hr => (k.block i (Nat.lt_of_lt_of_le hi h.size) hr).trans (h.block i hi hr)⟩
theorem grownBy_drew (w : World) (r : Option Nat) : w.grownBy w.drew r := ⟨rfl, rfl, rfl, Nat.le_refl _, fun _ _ _ => rfl⟩
theorem grownBy_drewN (w : World) (n : Nat) (r : Option Nat) : w.grownBy (w.drewN n) r := ⟨rfl, rfl, rfl, Nat.le_refl _, fun _ _ _ => rfl⟩
/-- A world with more blocks. -/
def More (w w' : World) : Prop := w.grownBy w' none
theorem More.cell {w w' : World} (h : More w w') {b o : Nat} {v : Value} (hc : w.cell? ⟨b, o, none⟩ = some v) : w'.cell? ⟨b, o, none⟩ = some v := World.grownBy.cell h hc (by simp)
theorem More.block {w w' : World} (h : More w w') {b : Nat} (hb : b < w.heap.size) : w'.heap[b]? = w.heap[b]? := World.grownBy.block h b hb (by simp)
theorem More.frozen {w w' : World} (h : More w w') {b o : Nat} (hb : b < w.heap.size) (hf : w.frozen? ⟨b, o, none⟩ = false) : w'.frozen? ⟨b, o, none⟩ = false := (World.frozen?_of_block (w := w) (h.block hb)).trans hf
theorem More.below {w w' : World} (h : More w w') : Below w.heap.size w w' := ⟨h.os, h.tape, h.output, h.size, fun _k hk => h.block hk⟩
theorem more_drew (w : World) : More w w.drew := grownBy_drew w none
theorem more_trans {a b c : World} (h : More a b) (k : More b c) : More a c := grownBy_trans h k
theorem more_of {w w' : World} (h : Below w.heap.size w w') : More w w' := ⟨h.os, h.tape, h.output, h.size, fun k hk _ => h.block k hk⟩

theorem cell_of_blk {w : World} {b j : Nat} {arr : Array Value} {ty : TypeId} {u : Value} (h : w.heap[b]? = some (.cells arr ty)) (hj : arr[j]? = some u) : w.cell? ⟨b, j, none⟩ = some u := by
  simp only [World.cell?, h]
  simpa using hj
/-- More blocks, and the tape's place has not gone back. -/
def Lay (w w' : World) : Prop := More w w' ∧ w.drawn ≤ w'.drawn
theorem Lay.refl (w : World) : Lay w w := ⟨World.grownBy.refl _ _, Nat.le_refl _⟩
theorem Lay.trans {a b c : World} (h : Lay a b) (k : Lay b c) : Lay a c := ⟨more_trans h.1 k.1, Nat.le_trans h.2 k.2⟩
theorem Lay.alloc (w : World) (o : Obj) : Lay w (w.alloc o) := ⟨World.grownBy_alloc _ _ _, Nat.le_refl _⟩
theorem Lay.drew (w : World) : Lay w w.drew := ⟨more_drew w, Nat.le_succ _⟩
theorem Lay.drewN (w : World) (n : Nat) : Lay w (w.drewN n) := ⟨grownBy_drewN w n none, by simp [World.drewN]⟩
/-- A list's cells, k of each element. -/
def flatC {α : Type} (c : α → List Value) (l : List α) : List Value := l.flatMap c
theorem flatC_len {α : Type} {c : α → List Value} {k : Nat} (hc : ∀ x, (c x).length = k) (l : List α) : (flatC c l).length = l.length * k := by
  unfold flatC
  induction l with
  | nil => simp
  | cons x xs ih => rw [List.flatMap_cons, List.length_append, hc, ih, List.length_cons, Nat.add_mul]; omega
theorem flatC_get {α : Type} {c : α → List Value} {k : Nat} (hc : ∀ x, (c x).length = k) : ∀ (l : List α) (i : Nat) (hi : i < l.length) (j : Nat) (u : Value), (c l[i])[j]? = some u → (flatC c l)[i * k + j]? = some u
  | x :: xs, 0, _, j, u, h => by
    have hj : j < (c x).length := by
      rcases Nat.lt_or_ge j (c x).length with h' | h'
      · exact h'
      · simp only [List.getElem_cons_zero] at h; rw [List.getElem?_eq_none h'] at h; cases h
    unfold flatC
    rw [List.flatMap_cons, Nat.zero_mul, Nat.zero_add, List.getElem?_append_left hj]
    simpa using h
  | x :: xs, i + 1, hi, j, u, h => by
    have := flatC_get hc xs i (by simpa using hi) j u (by simpa using h)
    unfold flatC at this ⊢
    rw [List.flatMap_cons, List.getElem?_append_right (by rw [hc, Nat.add_mul]; omega), hc, show (i + 1) * k + j - k = i * k + j by rw [Nat.add_mul]; omega]
    exact this
  | [], _, hi, _, _, _ => by simp at hi
theorem flatC_push {α : Type} (c : α → List Value) (l : List α) (x : α) : flatC c (l ++ [x]) = flatC c l ++ c x := by unfold flatC; simp
theorem flatC_take {α : Type} {c : α → List Value} {k : Nat} (hc : ∀ x, (c x).length = k) (l : List α) (n : Nat) : flatC c (l.take n) = (flatC c l).take (n * k) := by
  induction l generalizing n with
  | nil => simp [flatC]
  | cons x xs ih =>
    cases n with
    | zero => simp [flatC]
    | succ n =>
      have := ih n
      unfold flatC at this ⊢
      rw [List.take_succ_cons, List.flatMap_cons, List.flatMap_cons, this, Nat.add_mul, Nat.one_mul, List.take_append, hc, Nat.add_sub_cancel, List.take_of_length_le (l := c x) (by rw [hc]; omega)]
/-- A cell of a row of structs. -/
theorem Row.atC {α : Type} {c : α → List Value} {k : Nat} (hc : ∀ x, (c x).length = k) {S : Nat → Prop} {w : World} {l : List α} {a : Option Addr} {len cap : Nat} (h : Row S w k l.length (.slice a len cap) (flatC c l)) {i : Nat} (hi : i < l.length) :
    ∃ b off, a = some ⟨b, off, none⟩ ∧ S b ∧ ∀ j u, (c l[i])[j]? = some u → w.cell? ⟨b, off + i * k + j, none⟩ = some u := by
  obtain ⟨b, off, rfl, _, hS, hcell⟩ := h.at (by omega)
  exact ⟨b, off, rfl, hS, fun j u hj => by rw [Nat.add_assoc]; exact hcell _ _ (flatC_get hc l i hi j u hj)⟩
/-- Neighbouring cells are written. -/
def setC (w : World) (B o : Nat) : List Value → World
  | [] => w
  | a :: r => setC (w.setCell ⟨B, o, none⟩ a) B (o + 1) r
theorem setC_frozen (w : World) (B o : Nat) (a : Addr) (cs : List Value) : (setC w B o cs).frozen? a = w.frozen? a := by
  induction cs generalizing w o with
  | nil => rfl
  | cons c r ih => rw [setC, ih, World.frozen?_setCell]
theorem setC_far {w : World} {B o q : Nat} {cs : List Value} (h : q < o ∨ o + cs.length ≤ q) : (setC w B o cs).cell? ⟨B, q, none⟩ = w.cell? ⟨B, q, none⟩ := by
  induction cs generalizing w o with
  | nil => rfl
  | cons c r ih =>
    simp only [List.length_cons] at h
    rw [setC, ih (by omega), setCell_neq (by omega)]
theorem setC_at : ∀ (cs : List Value) {w : World} {B o j : Nat} {u v : Value}, cs[j]? = some u → w.cell? ⟨B, o + j, none⟩ = some v → (setC w B o cs).cell? ⟨B, o + j, none⟩ = some u
  | c :: r, w, B, o, 0, u, v, hu, hv => by
    rw [setC, setC_far (by omega)]
    simp at hu; subst hu
    exact setCell_eq hv
  | c :: r, w, B, o, j + 1, u, v, hu, hv => by
    rw [setC, show o + (j + 1) = o + 1 + j by omega]
    refine setC_at r (v := v) (by simpa using hu) ?_
    rw [setCell_neq (by omega), show o + 1 + j = o + (j + 1) by omega]
    exact hv
  | [], _, _, _, _, _, _, hu, _ => by simp at hu
theorem setC_grown (w : World) (B o : Nat) (cs : List Value) : w.grownBy (setC w B o cs) (some B) := by
  induction cs generalizing w o with
  | nil => exact World.grownBy.refl _ _
  | cons c r ih =>
    rw [setC]
    refine grownBy_trans (b := w.setCell ⟨B, o, none⟩ c) ⟨rfl, rfl, rfl, by simp [World.setCell], fun k _ hne => ?_⟩ (ih _ _)
    have hk : k ≠ B := fun e => hne (by rw [e])
    exact Below.heap_setCell _ _ _ _ hk
/-- The elements d lie in block B from off on, and may be written. -/
def HoldC {α : Type} [Inhabited α] (c : α → List Value) (k : Nat) (w : World) (B off : Nat) (d : Array α) : Prop :=
  ∀ i, i < d.size → ∀ j u, (c d[i]!)[j]? = some u → w.cell? ⟨B, off + i * k + j, none⟩ = some u ∧ w.frozen? ⟨B, off + i * k + j, none⟩ = false
section
variable {α : Type} [Inhabited α] {c : α → List Value} {k : Nat}
theorem HoldC.keep {w w' : World} {B off : Nat} {d : Array α} (h : HoldC c k w B off d) (hw : w'.heap[B]? = w.heap[B]?) : HoldC c k w' B off d := fun i hi j u hj => by
  obtain ⟨h1, h2⟩ := h i hi j u hj
  exact ⟨(World.cell?_of_block (w := w) hw).trans h1, (World.frozen?_of_block (w := w) hw).trans h2⟩
theorem HoldC.set {w : World} {B off : Nat} {d : Array α} (hc : ∀ x, (c x).length = k) (h : HoldC c k w B off d) {i : Nat} (hi : i < d.size) (x : α) : HoldC c k (setC w B (off + i * k) (c x)) B off (d.setIfInBounds i x) := by
  intro j hj q u hq
  have hj' : j < d.size := by simpa using hj
  have hqk : ∀ y : α, (c y)[q]? = some u → q < k := fun y hy => by
    rcases Nat.lt_or_ge q (c y).length with h' | h'
    · rw [hc] at h'; exact h'
    · rw [List.getElem?_eq_none h'] at hy; cases hy
  rw [setC_frozen]
  by_cases e : j = i
  · subst e
    have hx : (d.setIfInBounds j x)[j]! = x := by simp [hj']
    rw [hx] at hq
    have hqk' := hqk _ hq
    obtain ⟨h1, h2⟩ := h j hj' q ((c d[j]!)[q]'(by rw [hc]; exact hqk')) (List.getElem?_eq_getElem _)
    exact ⟨setC_at _ hq h1, h2⟩
  · have hx : (d.setIfInBounds i x)[j]! = d[j]! := by simp [hj', Ne.symm e]
    rw [hx] at hq
    have hqk' := hqk _ hq
    obtain ⟨h1, h2⟩ := h j hj' q u hq
    refine ⟨?_, h2⟩
    rw [setC_far]
    · exact h1
    · rw [hc]
      rcases Nat.lt_or_gt_of_ne e with hlt | hlt
      · left
        have := Nat.mul_le_mul_right k (show j + 1 ≤ i by omega)
        rw [Nat.add_mul] at this; omega
      · right
        have := Nat.mul_le_mul_right k (show i + 1 ≤ j by omega)
        rw [Nat.add_mul] at this; omega
end
end Go.Proofs.YtemeppfikpafbaaGreatDoor

/- cmp.Compare at kinds (122, 177), ints (123, 178) and statuses (141, 185); cmp.Or (68). -/
namespace Go.Proofs.YtemeppfikpafbaaGreatDoor
open Go.RowKit
/-- What cmp.Compare answers. -/
def cmpI (x y : Int) : Int := if x < y then -1 else if y < x then 1 else 0
theorem cmpI_neg {x y : Int} : cmpI x y < 0 ↔ x < y := by unfold cmpI; split <;> (try split) <;> simp_all <;> omega
theorem cmpI_zero {x y : Int} : cmpI x y = 0 ↔ x = y := by unfold cmpI; split <;> (try split) <;> simp_all <;> omega
theorem nanK_any (x : Int) (w : World) : Calls Tryz.prog 96 #[.int .u8 x] w fun e w' => e = .returned (.bool false) ∧ w' = w := by
  go_enter Tryz.func96, Tryz.ntmps96
  go_wp2_with fail
  go_ret
  simp
theorem cmpK_any (x y : Int) (w : World) : Calls Tryz.prog 79 #[.int .u8 x, .int .u8 y] w fun e w' => e = .returned (.int .i64 (cmpI x y)) ∧ w' = w := by
  go_enter Tryz.func79, Tryz.ntmps79
  by_cases h1 : x < y
  · have t1 : decide (x < y) = true := by simp [h1]
    have hc : cmpI x y = -1 := by simp [cmpI, h1]
    have HC := Lib.hid hc; clear hc h1
    go_wp2_with fail
    refine (nanK_any _ _).mono ?_
    rintro e w1 ⟨rfl, rfl⟩
    go_wp2_with fail
    refine (nanK_any _ _).mono ?_
    rintro e w1 ⟨rfl, rfl⟩
    go_wp2_with fail
    go_ret
    rw [HC.out]
    exact ⟨rfl, rfl⟩
  · have t1 : decide (x < y) = false := by simp [h1]
    by_cases h2 : y < x
    · have t2 : decide (y < x) = true := by simp [h2]
      have hc : cmpI x y = 1 := by simp [cmpI, h1, h2]
      have HC := Lib.hid hc; clear hc h1 h2
      go_wp2_with fail
      refine (nanK_any _ _).mono ?_
      rintro e w1 ⟨rfl, rfl⟩
      go_wp2_with fail
      refine (nanK_any _ _).mono ?_
      rintro e w1 ⟨rfl, rfl⟩
      go_wp2_with fail
      go_ret
      rw [HC.out]
      exact ⟨rfl, rfl⟩
    · have t2 : decide (y < x) = false := by simp [h2]
      have hc : cmpI x y = 0 := by simp [cmpI, h1, h2]
      have HC := Lib.hid hc; clear hc h1 h2
      go_wp2_with fail
      refine (nanK_any _ _).mono ?_
      rintro e w1 ⟨rfl, rfl⟩
      go_wp2_with fail
      refine (nanK_any _ _).mono ?_
      rintro e w1 ⟨rfl, rfl⟩
      go_wp2_with fail
      go_ret
      rw [HC.out]
      exact ⟨rfl, rfl⟩

theorem nanN_any (x : Int) (w : World) : Calls Tryz.prog 97 #[.int .i64 x] w fun e w' => e = .returned (.bool false) ∧ w' = w := by
  go_enter Tryz.func97, Tryz.ntmps97
  go_wp2_with fail
  go_ret
  simp
theorem cmpN_any (x y : Int) (w : World) : Calls Tryz.prog 80 #[.int .i64 x, .int .i64 y] w fun e w' => e = .returned (.int .i64 (cmpI x y)) ∧ w' = w := by
  go_enter Tryz.func80, Tryz.ntmps80
  by_cases h1 : x < y
  · have t1 : decide (x < y) = true := by simp [h1]
    have hc : cmpI x y = -1 := by simp [cmpI, h1]
    have HC := Lib.hid hc; clear hc h1
    go_wp2_with fail
    refine (nanN_any _ _).mono ?_
    rintro e w1 ⟨rfl, rfl⟩
    go_wp2_with fail
    refine (nanN_any _ _).mono ?_
    rintro e w1 ⟨rfl, rfl⟩
    go_wp2_with fail
    go_ret
    rw [HC.out]
    exact ⟨rfl, rfl⟩
  · have t1 : decide (x < y) = false := by simp [h1]
    by_cases h2 : y < x
    · have t2 : decide (y < x) = true := by simp [h2]
      have hc : cmpI x y = 1 := by simp [cmpI, h1, h2]
      have HC := Lib.hid hc; clear hc h1 h2
      go_wp2_with fail
      refine (nanN_any _ _).mono ?_
      rintro e w1 ⟨rfl, rfl⟩
      go_wp2_with fail
      refine (nanN_any _ _).mono ?_
      rintro e w1 ⟨rfl, rfl⟩
      go_wp2_with fail
      go_ret
      rw [HC.out]
      exact ⟨rfl, rfl⟩
    · have t2 : decide (y < x) = false := by simp [h2]
      have hc : cmpI x y = 0 := by simp [cmpI, h1, h2]
      have HC := Lib.hid hc; clear hc h1 h2
      go_wp2_with fail
      refine (nanN_any _ _).mono ?_
      rintro e w1 ⟨rfl, rfl⟩
      go_wp2_with fail
      refine (nanN_any _ _).mono ?_
      rintro e w1 ⟨rfl, rfl⟩
      go_wp2_with fail
      go_ret
      rw [HC.out]
      exact ⟨rfl, rfl⟩

/-- The first that is not 0. -/
def orI : List Int → Int
  | [] => 0
  | x :: r => if x = 0 then orI r else x
def iV (l : List Int) : List Value := l.map fun x => .int .i64 x
theorem iV_get (l : List Int) (j : Nat) (h : j < l.length) : (iV l)[j]? = some (.int .i64 l[j]) := by simp [iV, h]
set_option maxRecDepth 100000 in
theorem or_any (S : Nat → Prop) (l : List Int) (v : Value) (w : World) (hl : l.length ≤ 1000000) (h : Row S w 1 l.length v (iV l)) :
    Calls Tryz.prog 78 #[v] w fun e w' => e = .returned (.int .i64 (orI l)) ∧ w' = w := by
  obtain ⟨a, cap, rfl, _⟩ := h.shape
  have HR := Lib.hid h; clear h
  go_enter Tryz.func78, Tryz.ntmps78
  go_wp2_with fail
  go_loop [8] (fun i => ∃ j : Nat, j ≤ l.length ∧ i = .int .i64 j ∧ Hid (orI (l.drop j) = orI l)) (fun i => l.length - (intOf i).toNat)
  case atStart => exact ⟨0, Nat.zero_le _, rfl, Lib.hid rfl⟩
  case round =>
    obtain ⟨j, hj, rfl, HE⟩ := hrel
    by_cases hlt : j < l.length
    · obtain ⟨b, off, rfl, _, _, hc⟩ := HR.out.at (by omega)
      have g0 := hc _ _ (iV_get l j hlt)
      clear hc
      have HDR := Lib.hid (List.drop_eq_getElem_cons hlt)
      generalize l[j] = x at *
      by_cases hx : x = 0
      · have t1 : (x != 0) = false := by simp [hx]
        have HE1 := Lib.hid (show orI (l.drop (j + 1)) = orI l by rw [← HE.out, HDR.out, orI, if_pos hx])
        clear hx
        go_wp2_with fail
        go_round
        case rel => exact ⟨j + 1, by omega, by go_num, HE1⟩
        case measure => simp [intOf]; omega
      · have t1 : (x != 0) = true := by simpa using hx
        have HE1 := Lib.hid (show x = orI l by rw [← HE.out, HDR.out, orI, if_neg hx])
        clear hx
        go_wp2_with fail
        go_ret
        exact ⟨by rw [← HE1.out]; rfl, rfl⟩
    · have HE1 := Lib.hid (show 0 = orI l by rw [← HE.out, List.drop_of_length_le (by omega)]; rfl)
      go_wp2_with fail
      go_ret
      exact ⟨by rw [← HE1.out]; rfl, rfl⟩
end Go.Proofs.YtemeppfikpafbaaGreatDoor

/- Keys and messages: choice.compare (79), Less (32), rank.compareKeys (69). -/
namespace Go.Proofs.YtemeppfikpafbaaGreatDoor
open Go.RowKit
structure K4 where
  kind : Int
  a : Int
  b : Int
  n : Int
deriving DecidableEq
instance : Inhabited K4 := ⟨⟨0, 0, 0, 0⟩⟩
def kC (x : K4) : List Value := [.int .u8 x.kind, .int .i64 x.a, .int .i64 x.b, .int .i64 x.n]
def kA (x : K4) : Value := .agg #[.int .u8 x.kind, .int .i64 x.a, .int .i64 x.b, .int .i64 x.n]
theorem kC_len (x : K4) : (kC x).length = 4 := rfl
def cmpK4 (x y : K4) : Int := orI [cmpI x.kind y.kind, cmpI x.a y.a, cmpI x.b y.b, cmpI x.n y.n]
/-- Two boxes behind one another. -/
theorem boxed2 (w : World) (o1 o2 : Obj) : ((w.alloc o1).alloc o2).heap[w.heap.size]? = some o1 ∧ ((w.alloc o1).alloc o2).heap[w.heap.size + 1]? = some o2 ∧ Lay w ((w.alloc o1).alloc o2) :=
  ⟨by rw [Below.heap_alloc _ _ _ (by simp)]; exact alloc_last _ _, alloc_at _ _ (by simp), (Lay.alloc _ _).trans (Lay.alloc _ _)⟩
theorem row_lit {S : Nat → Prop} {w : World} {l : List Int} {ty : TypeId} (hS : S w.heap.size) {arr : Array Value} (ha : arr.toList = iV l) : Row S (w.alloc (.cells arr ty)) 1 l.length (.slice (some ⟨w.heap.size, 0, none⟩) l.length l.length) (iV l) := by
  refine ⟨by simp [iV], _, _, rfl, Nat.le_refl _, fun _ => ⟨w.heap.size, 0, rfl, hS, fun j u hj => ?_⟩⟩
  rw [← ha] at hj
  have := alloc_last w (.cells arr ty)
  rw [Nat.zero_add]
  simp only [World.cell?, this]
  simpa using hj
set_option maxRecDepth 100000 in
theorem compareK_any (x y : K4) (w : World) : Calls Tryz.prog 47 #[kA x, kA y] w fun e w' => e = .returned (.int .i64 (cmpK4 x y)) ∧ Lay w w' := by
  unfold kA
  have H := Lib.hid (show orI [cmpI x.kind y.kind, cmpI x.a y.a, cmpI x.b y.b, cmpI x.n y.n] = cmpK4 x y from rfl)
  go_enter Tryz.func47, Tryz.ntmps47
  go_wp2_with fail
  obtain ⟨h1, h2, hm⟩ := boxed2 w (.cells #[.int .u8 x.kind, .int .i64 x.a, .int .i64 x.b, .int .i64 x.n] 53) (.cells #[.int .u8 y.kind, .int .i64 y.a, .int .i64 y.b, .int .i64 y.n] 53)
  generalize (w.alloc (.cells #[.int .u8 x.kind, .int .i64 x.a, .int .i64 x.b, .int .i64 x.n] 53)).alloc (.cells #[.int .u8 y.kind, .int .i64 y.a, .int .i64 y.b, .int .i64 y.n] 53) = w2 at *
  have a0 : w2.cell? ⟨w.heap.size, 0, none⟩ = some (.int .u8 x.kind) := by simp [World.cell?, h1]
  have a1 : w2.cell? ⟨w.heap.size, 1, none⟩ = some (.int .i64 x.a) := by simp [World.cell?, h1]
  have a2 : w2.cell? ⟨w.heap.size, 2, none⟩ = some (.int .i64 x.b) := by simp [World.cell?, h1]
  have a3 : w2.cell? ⟨w.heap.size, 3, none⟩ = some (.int .i64 x.n) := by simp [World.cell?, h1]
  have b0 : w2.cell? ⟨w.heap.size + 1, 0, none⟩ = some (.int .u8 y.kind) := by simp [World.cell?, h2]
  have b1 : w2.cell? ⟨w.heap.size + 1, 1, none⟩ = some (.int .i64 y.a) := by simp [World.cell?, h2]
  have b2 : w2.cell? ⟨w.heap.size + 1, 2, none⟩ = some (.int .i64 y.b) := by simp [World.cell?, h2]
  have b3 : w2.cell? ⟨w.heap.size + 1, 3, none⟩ = some (.int .i64 y.n) := by simp [World.cell?, h2]
  have HM := Lib.hid hm
  clear h1 h2 hm
  have ha := cell_lt a0
  have hb := cell_lt b0
  refine wp_region_still_tail 20 (by kernel_rfl) (by kernel_rfl) ?_
  simp only [List.take_succ_cons, List.take_zero, List.drop_succ_cons, List.drop_zero]
  repeat still_step
  still_call (cmpK_any _ _ _)
  repeat still_step
  still_call (cmpN_any _ _ _)
  repeat still_step
  still_call (cmpN_any _ _ _)
  repeat still_step
  still_call (cmpN_any _ _ _)
  refine wpStill_nil ?_
  change wpList _ _ _ _ _ w2.drew
  generalize hw3 : w2.drew = w3
  have HM3 := Lib.hid (show Lay w w3 by rw [← hw3]; exact HM.out.trans (Lay.drew _))
  clear a0 a1 a2 a3 b0 b1 b2 b3 ha hb hw3
  go_wp2_with fail
  refine (or_any (fun _ => True) [cmpI x.kind y.kind, cmpI x.a y.a, cmpI x.b y.b, cmpI x.n y.n] _ _ (show 4 ≤ 1000000 by decide) (row_lit trivial rfl)).mono ?_
  rw [H.out]
  rintro e w' ⟨rfl, hw'⟩
  rw [hw']
  clear hw' w'
  go_wp2_with fail
  go_ret
  exact ⟨rfl, HM3.out.trans (Lay.alloc _ _)⟩
set_option maxRecDepth 100000 in
theorem lessK_any (x y : K4) (w : World) : Calls Tryz.prog 48 #[kA x, kA y] w fun e w' => e = .returned (.bool (decide (cmpK4 x y < 0))) ∧ Lay w w' := by
  have HC := Lib.hid (fun w => compareK_any x y w)
  unfold kA at *
  generalize hz : cmpK4 x y = z at *
  clear hz
  go_enter Tryz.func48, Tryz.ntmps48
  go_wp2_with fail
  obtain ⟨h1, h2, hm⟩ := boxed2 w (.cells #[.int .u8 x.kind, .int .i64 x.a, .int .i64 x.b, .int .i64 x.n] 53) (.cells #[.int .u8 y.kind, .int .i64 y.a, .int .i64 y.b, .int .i64 y.n] 53)
  generalize (w.alloc (.cells #[.int .u8 x.kind, .int .i64 x.a, .int .i64 x.b, .int .i64 x.n] 53)).alloc (.cells #[.int .u8 y.kind, .int .i64 y.a, .int .i64 y.b, .int .i64 y.n] 53) = w2 at *
  have a0 : w2.cell? ⟨w.heap.size, 0, none⟩ = some (.int .u8 x.kind) := by simp [World.cell?, h1]
  have a1 : w2.cell? ⟨w.heap.size, 1, none⟩ = some (.int .i64 x.a) := by simp [World.cell?, h1]
  have a2 : w2.cell? ⟨w.heap.size, 2, none⟩ = some (.int .i64 x.b) := by simp [World.cell?, h1]
  have a3 : w2.cell? ⟨w.heap.size, 3, none⟩ = some (.int .i64 x.n) := by simp [World.cell?, h1]
  have b0 : w2.cell? ⟨w.heap.size + 1, 0, none⟩ = some (.int .u8 y.kind) := by simp [World.cell?, h2]
  have b1 : w2.cell? ⟨w.heap.size + 1, 1, none⟩ = some (.int .i64 y.a) := by simp [World.cell?, h2]
  have b2 : w2.cell? ⟨w.heap.size + 1, 2, none⟩ = some (.int .i64 y.b) := by simp [World.cell?, h2]
  have b3 : w2.cell? ⟨w.heap.size + 1, 3, none⟩ = some (.int .i64 y.n) := by simp [World.cell?, h2]
  have HM := Lib.hid hm
  clear h1 h2 hm
  go_wp2_with fail
  refine (HC.out w2).mono ?_
  rintro e w3 ⟨rfl, hm3⟩
  have HM3 := Lib.hid (HM.out.trans hm3)
  clear a0 a1 a2 a3 b0 b1 b2 b3 hm3
  go_wp2_with fail
  go_ret
  exact ⟨rfl, HM3.out⟩
/-- What rank.compareKeys answers. -/
def sgnK (x y : K4) : Int := if cmpK4 x y < 0 then -1 else if cmpK4 y x < 0 then 1 else 0
end Go.Proofs.YtemeppfikpafbaaGreatDoor

/- The orders of keys, messages and shares, in plain words. -/
namespace Go.Proofs.YtemeppfikpafbaaGreatDoor
open Go.RowKit Go.Sort Go.Shelf
theorem orI_neg (c : Int) (r : List Int) : orI (c :: r) < 0 ↔ c < 0 ∨ (c = 0 ∧ orI r < 0) := by
  rw [show orI (c :: r) = if c = 0 then orI r else c from rfl]
  split
  · rename_i h; subst h; simp
  · rename_i h; constructor
    · exact Or.inl
    · rintro (h' | ⟨h', _⟩)
      · exact h'
      · exact absurd h' h
theorem orI_zero (c : Int) (r : List Int) : orI (c :: r) = 0 ↔ c = 0 ∧ orI r = 0 := by
  rw [show orI (c :: r) = if c = 0 then orI r else c from rfl]
  split
  · rename_i h; subst h; simp
  · rename_i h; simp [h]
theorem orI_nil : orI [] = 0 := rfl
/-- The order of keys. -/
def ltK (x y : K4) : Prop := x.kind < y.kind ∨ (x.kind = y.kind ∧ (x.a < y.a ∨ (x.a = y.a ∧ (x.b < y.b ∨ (x.b = y.b ∧ x.n < y.n)))))
theorem cmpK4_neg (x y : K4) : cmpK4 x y < 0 ↔ ltK x y := by
  unfold cmpK4 ltK
  rw [orI_neg, orI_neg, orI_neg, orI_neg, orI_nil, cmpI_neg, cmpI_neg, cmpI_neg, cmpI_neg, cmpI_zero, cmpI_zero, cmpI_zero]
  simp
theorem ltK_irrefl (x : K4) : ¬ ltK x x := by unfold ltK; omega
theorem ltK_trans {x y z : K4} (h : ltK x y) (h' : ltK y z) : ltK x z := by unfold ltK at *; omega
theorem ltK_tri {x y : K4} (h : ¬ ltK x y) (h' : ¬ ltK y x) : x = y := by
  obtain ⟨a, b, c, d⟩ := x
  obtain ⟨a', b', c', d'⟩ := y
  unfold ltK at h h'
  simp only at h h'
  have h1 : a = a' := by omega
  have h2 : b = b' := by omega
  have h3 : c = c' := by omega
  have h4 : d = d' := by omega
  rw [h1, h2, h3, h4]
instance (x y : K4) : Decidable (ltK x y) := by unfold ltK; infer_instance
theorem sgnK_neg (x y : K4) : sgnK x y < 0 ↔ ltK x y := by
  unfold sgnK
  rw [← cmpK4_neg]
  split
  · rename_i h; simp [h]
  · rename_i h
    split <;> simp [h]
/-- A comparison by a strict total order. -/
structure CmpBy {α : Type} (cf : α → α → Int) (lt : α → α → Prop) : Prop where
  neg : ∀ x y, cf x y < 0 ↔ lt x y
  irrefl : ∀ x, ¬ lt x x
  trans : ∀ x y z, lt x y → lt y z → lt x z
  tri : ∀ x y, ¬ lt x y → ¬ lt y x → x = y
section
variable {α : Type} {cf : α → α → Int} {lt : α → α → Prop}
theorem CmpBy.ltOf (h : CmpBy cf lt) (x y : α) : ltOf cf x y = true ↔ lt x y := by unfold Go.Proofs.ltOf; rw [decide_eq_true_eq]; exact h.neg x y
theorem CmpBy.ltOf' (h : CmpBy cf lt) (x y : α) : Go.Proofs.ltOf cf x y = false ↔ ¬ lt x y := by rw [← h.ltOf, Bool.not_eq_true]
theorem CmpBy.swo (h : CmpBy cf lt) : SWO (Go.Proofs.ltOf cf) where
  irrefl x := (h.ltOf' x x).2 (h.irrefl x)
  trans x y z h1 h2 := (h.ltOf x z).2 (h.trans x y z ((h.ltOf x y).1 h1) ((h.ltOf y z).1 h2))
  ntrans x y z h1 h2 := by
    rw [h.ltOf'] at *
    intro h3
    by_cases e : lt y x
    · exact h2 (h.trans _ _ _ e h3)
    · have := h.tri x y h1 e
      subst this
      exact h2 h3
theorem CmpBy.total (h : CmpBy cf lt) (x y : α) (h1 : Go.Proofs.ltOf cf x y = false) (h2 : Go.Proofs.ltOf cf y x = false) : x = y := h.tri x y ((h.ltOf' x y).1 h1) ((h.ltOf' y x).1 h2)
/-- The sorted list is ascending, where no element stands twice. -/
theorem CmpBy.sorted (h : CmpBy cf lt) (l : List α) (hn : l.Nodup) : (l.mergeSort fun x y => !(Go.Proofs.ltOf cf) y x).Pairwise lt := by
  have h1 : (l.mergeSort fun x y => !(Go.Proofs.ltOf cf) y x).Pairwise (fun x y => (!(Go.Proofs.ltOf cf) y x) = true) := by
    refine List.pairwise_mergeSort (fun a b c h1 h2 => ?_) (fun a b => ?_) l
    · rw [Bool.not_eq_true', h.ltOf'] at *
      intro h3
      by_cases e : lt b a
      · exact h1 e
      · by_cases e' : lt a b
        · exact h2 (h.trans _ _ _ h3 e')
        · have := h.tri a b e' e
          subst this
          exact h2 h3
    · rw [Bool.or_eq_true, Bool.not_eq_true', Bool.not_eq_true', h.ltOf', h.ltOf']
      by_cases e : lt b a
      · right; intro e'; exact h.irrefl _ (h.trans _ _ _ e e')
      · left; exact e
  have hn' : (l.mergeSort fun x y => !(Go.Proofs.ltOf cf) y x).Nodup := (List.mergeSort_perm l _).nodup_iff.2 hn
  refine (List.Pairwise.and h1 hn').imp fun {a b} hab => ?_
  obtain ⟨h2, h3⟩ := hab
  rw [Bool.not_eq_true', h.ltOf'] at h2
  by_cases e : lt a b
  · exact e
  · exact absurd (h.tri a b e h2) h3
end
theorem cmpK_by : CmpBy cmpK4 ltK := ⟨cmpK4_neg, ltK_irrefl, fun _ _ _ => ltK_trans, fun _ _ => ltK_tri⟩
end Go.Proofs.YtemeppfikpafbaaGreatDoor

/- Keys and messages as keys of maps. -/
namespace Go.Proofs.YtemeppfikpafbaaGreatDoor
open Go.RowKit Go.Maps
theorem kLaid : laidOutB Tryz.prog = true := by kernel_rfl
theorem lawK : Keyed Tryz.prog 53 := Keyed.of_law (deep_law_laid kLaid (m := 3) (by omega) (by decide +kernel) (by kernel_rfl) (by kernel_rfl))
def In64 (x : Int) : Prop := -9223372036854775808 ≤ x ∧ x ≤ 9223372036854775807
structure K4.Ok (x : K4) : Prop where
  kind : 0 ≤ x.kind ∧ x.kind ≤ 255
  a : In64 x.a
  b : In64 x.b
  n : In64 x.n
def kL (x : K4) : Lit := .string (keyBytes [.int .u8 x.kind, .int .i64 x.a, .int .i64 x.b, .int .i64 x.n])
theorem wf_i64 {x : Int} (h : In64 x) : (Lit.int .i64 x).wf = true := by
  obtain ⟨h1, h2⟩ := h
  simp [Lit.wf, IntKind.min, IntKind.max, IntKind.signed, IntKind.bits]; omega
theorem wf_u8 {x : Int} (h : 0 ≤ x ∧ x ≤ 255) : (Lit.int .u8 x).wf = true := by
  obtain ⟨h1, h2⟩ := h
  simp [Lit.wf, IntKind.min, IntKind.max, IntKind.signed, IntKind.bits]; omega
theorem lits_int {d t : Nat} {q : IntKind} {x : Int} (ht : Tryz.prog.underlying t = some (.int q)) (h : (Lit.int q x).wf = true) : Tryz.prog.keyLits (d + 1) t [.int q x] = some [.int q x] := by
  simp [Program.keyLits, ht, h]
theorem sizeK : Tryz.prog.types.size = 1 + (Tryz.prog.types.size - 1) := by decide +kernel
theorem cells46 : Tryz.prog.cellsOf 51 = 1 := by kernel_rfl
theorem cells3 : Tryz.prog.cellsOf 3 = 1 := by kernel_rfl
theorem cells48 : Tryz.prog.cellsOf 53 = 4 := by kernel_rfl
theorem typeK : Tryz.prog.keyType 53 = true := by decide +kernel
theorem keyOf_K (x : K4) (h : x.Ok) : keyOf Tryz.prog 53 (kA x) = some (kL x) := by
  have hl : Tryz.prog.keyLits (Tryz.prog.types.size + 1) 53 (kC x) = some [.int .u8 x.kind, .int .i64 x.a, .int .i64 x.b, .int .i64 x.n] := by
    rw [sizeK, Nat.add_comm 1]
    conv => lhs; unfold Program.keyLits
    simp only [Tryz.underlying53, kC]
    simp [cells48, cells46, cells3, lits_int Tryz.underlying51 (wf_u8 h.kind), lits_int Tryz.underlying3 (wf_i64 h.a), lits_int Tryz.underlying3 (wf_i64 h.b), lits_int Tryz.underlying3 (wf_i64 h.n)]
  unfold keyOf
  simp only [Tryz.underlying53, typeK]
  rw [show (kA x).cells.toList = kC x from rfl, hl]
  simp [kA, Value.formed, Tryz.underlying53, cells48, kL]
end Go.Proofs.YtemeppfikpafbaaGreatDoor

/- rank.distinct at keys (61). -/
namespace Go.Proofs.YtemeppfikpafbaaGreatDoor
open Go.RowKit Go.Maps
section
variable {α : Type} [DecidableEq α]
def ndStep (acc : List α) (x : α) : List α := if x ∈ acc then acc else acc ++ [x]
/-- The different elements, in the order in which they come first. -/
def nd (l : List α) : List α := l.foldl ndStep []
theorem mem_ndStep (acc : List α) (x y : α) : y ∈ ndStep acc x ↔ y ∈ acc ∨ y = x := by
  unfold ndStep
  split
  · rename_i h
    exact ⟨Or.inl, fun h' => h'.elim id (fun e => by rw [e]; exact h)⟩
  · simp
theorem mem_foldl_nd : ∀ (l acc : List α) (y : α), y ∈ l.foldl ndStep acc ↔ y ∈ acc ∨ y ∈ l
  | [], acc, y => by simp
  | x :: r, acc, y => by rw [List.foldl_cons, mem_foldl_nd r, mem_ndStep, List.mem_cons, or_assoc]
theorem mem_nd (l : List α) (y : α) : y ∈ nd l ↔ y ∈ l := by unfold nd; rw [mem_foldl_nd]; simp
/-- Block b is a map to true whose keys are those of X. -/
def SetOf (KT : TypeId) (Ok : α → Prop) (kl : α → Lit) (m : Nat) (w : World) (b : Nat) (X : List α) : Prop :=
  ∃ n D, w.ownsMap (H := Unit) Tryz.prog KT (plainElem Tryz.prog 4) b n D ∧ n ≤ m ∧ Maps.size D = X.length ∧ ∀ x, Ok x → (has D (kl x) = true ↔ x ∈ X)
omit [DecidableEq α] in
theorem SetOf.keep {KT : TypeId} {Ok : α → Prop} {kl : α → Lit} {m : Nat} {w w' : World} {b : Nat} {X : List α} (h : SetOf KT Ok kl m w b X) (hb : w'.heap[b]? = w.heap[b]?) : SetOf KT Ok kl m w' b X := by
  obtain ⟨n, D, ⟨es, clock, h1, h2⟩, h3⟩ := h
  exact ⟨n, D, ⟨es, clock, hb.trans h1, h2⟩, h3⟩
end
def boolD (b : Bool) : DataW Unit := .lit (.bool b)
theorem kA_inj {x y : K4} (h : kA x = kA y) : x = y := by
  obtain ⟨a, b, c, d⟩ := x
  obtain ⟨a', b', c', d'⟩ := y
  simp [kA] at h
  obtain ⟨rfl, rfl, rfl, rfl⟩ := h
  rfl
theorem kL_inj {x y : K4} (hx : x.Ok) (hy : y.Ok) (h : kL x = kL y) : x = y := kA_inj (lawK.inj (keyOf_K x hx) (by rw [h]; exact keyOf_K y hy))
abbrev SetK (m : Nat) (w : World) (b : Nat) (X : List K4) : Prop := SetOf 53 K4.Ok kL m w b X
theorem SetK.start (w : World) : SetK 0 (w.alloc (.map #[] 0)) w.heap.size [] := ⟨0, .map [], World.ownsMap_made w _ _ _, Nat.zero_le _, rfl, fun s _ => by simp [has_eq]⟩
theorem SetK.put {w w' : World} {b n m : Nat} {X : List K4} {D : DataW Unit} {x : K4} (ho : w.ownsMap (H := Unit) Tryz.prog 53 (plainElem Tryz.prog 4) b n D) (hx : x.Ok) (hn : n ≤ m) (hs : Maps.size D = X.length) (hD : ∀ s : K4, s.Ok → (has D (kL s) = true ↔ s ∈ X))
    (h : w'.ownsMap (H := Unit) Tryz.prog 53 (plainElem Tryz.prog 4) b (n + 1) (D.put (kL x) (boolD true))) : SetK (m + 1) w' b (ndStep X x) := by
  refine ⟨n + 1, _, h, by omega, ?_, fun s hs' => ?_⟩
  · rw [size_put (ho.tidy lawK)]
    unfold ndStep
    by_cases e : x ∈ X
    · rw [if_pos ((hD x hx).2 e), if_pos e, hs]
    · rw [if_neg (fun h' => e ((hD x hx).1 h')), if_neg e, hs]; simp
  · rw [mem_ndStep]
    by_cases e : s = x
    · rw [e, has_put_same ho.isMap (show WideAt.IsKeyLit (kL x) from trivial)]; simp
    · have hne : kL s ≠ kL x := fun he => e (kL_inj hs' hx he)
      rw [has_put_other hne, hD s hs']
      exact ⟨Or.inl, fun h' => h'.elim id (fun e' => absurd e' e)⟩
end Go.Proofs.YtemeppfikpafbaaGreatDoor

/- Messages as keys of maps; rank.distinct at messages (62). -/
namespace Go.Proofs.YtemeppfikpafbaaGreatDoor
open Go.RowKit Go.Maps
structure M3 where
  f : Int
  t : Int
  n : Int
deriving DecidableEq
instance : Inhabited M3 := ⟨⟨0, 0, 0⟩⟩
def mC (x : M3) : List Value := [.int .i64 x.f, .int .i64 x.t, .int .i64 x.n]
def mA (x : M3) : Value := .agg #[.int .i64 x.f, .int .i64 x.t, .int .i64 x.n]
structure M3.Ok (x : M3) : Prop where
  f : In64 x.f
  t : In64 x.t
  n : In64 x.n
def mL (x : M3) : Lit := .string (keyBytes [.int .i64 x.f, .int .i64 x.t, .int .i64 x.n])
theorem lawM : Keyed Tryz.prog 65 := Keyed.of_law (deep_law_laid kLaid (m := 3) (by omega) (by decide +kernel) (by kernel_rfl) (by kernel_rfl))
theorem cells54 : Tryz.prog.cellsOf 65 = 3 := by kernel_rfl
theorem typeM : Tryz.prog.keyType 65 = true := by decide +kernel
theorem keyOf_M (x : M3) (h : x.Ok) : keyOf Tryz.prog 65 (mA x) = some (mL x) := by
  have hl : Tryz.prog.keyLits (Tryz.prog.types.size + 1) 65 (mC x) = some [.int .i64 x.f, .int .i64 x.t, .int .i64 x.n] := by
    rw [sizeK, Nat.add_comm 1]
    conv => lhs; unfold Program.keyLits
    simp only [Tryz.underlying65, mC]
    simp [cells54, cells3, lits_int Tryz.underlying3 (wf_i64 h.f), lits_int Tryz.underlying3 (wf_i64 h.t), lits_int Tryz.underlying3 (wf_i64 h.n)]
  unfold keyOf
  simp only [Tryz.underlying65, typeM]
  rw [show (mA x).cells.toList = mC x from rfl, hl]
  simp [mA, Value.formed, Tryz.underlying65, cells54, mL]
theorem mA_inj {x y : M3} (h : mA x = mA y) : x = y := by
  obtain ⟨a, b, c⟩ := x
  obtain ⟨a', b', c'⟩ := y
  simp [mA] at h
  obtain ⟨rfl, rfl, rfl⟩ := h
  rfl
theorem mL_inj {x y : M3} (hx : x.Ok) (hy : y.Ok) (h : mL x = mL y) : x = y := mA_inj (lawM.inj (keyOf_M x hx) (by rw [h]; exact keyOf_M y hy))
abbrev SetM (m : Nat) (w : World) (b : Nat) (X : List M3) : Prop := SetOf 65 M3.Ok mL m w b X
theorem SetM.start (w : World) : SetM 0 (w.alloc (.map #[] 0)) w.heap.size [] := ⟨0, .map [], World.ownsMap_made w _ _ _, Nat.zero_le _, rfl, fun s _ => by simp [has_eq]⟩
theorem SetM.put {w w' : World} {b n m : Nat} {X : List M3} {D : DataW Unit} {x : M3} (ho : w.ownsMap (H := Unit) Tryz.prog 65 (plainElem Tryz.prog 4) b n D) (hx : x.Ok) (hn : n ≤ m) (hs : Maps.size D = X.length) (hD : ∀ s : M3, s.Ok → (has D (mL s) = true ↔ s ∈ X))
    (h : w'.ownsMap (H := Unit) Tryz.prog 65 (plainElem Tryz.prog 4) b (n + 1) (D.put (mL x) (boolD true))) : SetM (m + 1) w' b (ndStep X x) := by
  refine ⟨n + 1, _, h, by omega, ?_, fun s hs' => ?_⟩
  · rw [size_put (ho.tidy lawM)]
    unfold ndStep
    by_cases e : x ∈ X
    · rw [if_pos ((hD x hx).2 e), if_pos e, hs]
    · rw [if_neg (fun h' => e ((hD x hx).1 h')), if_neg e, hs]; simp
  · rw [mem_ndStep]
    by_cases e : s = x
    · rw [e, has_put_same ho.isMap (show WideAt.IsKeyLit (mL x) from trivial)]; simp
    · have hne : mL s ≠ mL x := fun he => e (mL_inj hs' hx he)
      rw [has_put_other hne, hD s hs']
      exact ⟨Or.inl, fun h' => h'.elim id (fun e' => absurd e' e)⟩
end Go.Proofs.YtemeppfikpafbaaGreatDoor

/- Small facts on rows: nil slices, appended rows, worlds that grow. -/
namespace Go.Proofs.YtemeppfikpafbaaGreatDoor
open Go.RowKit
theorem more_alloc (w : World) (o : Obj) : More w (w.alloc o) := (Lay.alloc w o).1
def NilA (v : Value) : Prop := ∀ n c, v = .slice none n c → c = 0
theorem owns_nil {w : World} {B : Nat} {e : TypeId} {n size : Nat} {v : Value} {xs : List Value} (h : w.ownsRow B e size v n xs) : NilA v := by
  obtain ⟨_, h | ⟨g, cap, cur, rfl, _⟩⟩ := h
  · rw [h.1]; intro n c e; cases e; rfl
  · intro n c e; cases e
theorem Row.lt {S : Nat → Prop} {w : World} {size n : Nat} {v : Value} {xs : List Value} (hs : 0 < size) (h : Row S w size n v xs) : Row (fun b => S b ∧ b < w.heap.size) w size n v xs :=
  h.mono2 hs fun _ _ _ hb hc => ⟨⟨hb, cell_lt hc⟩, hc⟩
end Go.Proofs.YtemeppfikpafbaaGreatDoor

/-
  DERIVED: THE SHELF's CONTRACTS AT THIS DUMP, IN PLAIN WORDS (tools/lay-plain.mjs out of 'TryShelfB.lean', which tools/lay-shelf.mjs wrote): THE SAME DECLARATIONS UNDER THE SAME NAMES: 'import', 'namespace', 'open', 'def', 'theorem' AND NOTHING ELSE: no command of the shelf's: FOR A HAND-IN. Each laying: the table of numbers ('.._ren') and one theorem, a field a fact of the dump's own or the kernel's comparison; each contract: ONE APPLICATION.
-/
namespace Go.Proofs
open Go.Shelf
end Go.Proofs

/- package ratio at degrees: size (76), gcd (78), one (74), Valid (31), times (75), order (77), Cmp (30). -/
namespace Go.Proofs.YtemeppfikpafbaaGreatDoor
open Go.RowKit
def oneR (x : Int × Int) : Int × Int := if x = (0, 0) then (0, 1) else x
def wA (x : Int) : Value := .agg #[.bool false, .int .u64 0, .int .u64 x]
end Go.Proofs.YtemeppfikpafbaaGreatDoor

/- A region that draws its order, by one invariant: each operation is proved once, not once an order. -/
namespace Go.Proofs.YtemeppfikpafbaaGreatDoor
/-- How many have not come up yet. -/
def Region.left (listed : Array Bool) : Nat := (listed.toList.filter (fun b => !b)).length
section
variable {P : Program} {ops : Array Oper} {Q : Exit → Act → World → Prop} {md : Region.Mode}
end
end Go.Proofs.YtemeppfikpafbaaGreatDoor

/- A drawn region by one invariant, over the frame at its start; boxes that it lays and fills. -/
namespace Go.Proofs.YtemeppfikpafbaaGreatDoor
open Go.RowKit
/-- A block that the region has laid: a pointer to its head; it holds z, or v when it has been filled. -/
def Box (W : World) (base : Nat) (x : Value) (T : TypeId) (done : Bool) (z v : List Value) : Prop :=
  ∃ B, x = .pointer (some ⟨B, 0, none⟩) ∧ base ≤ B ∧ W.heap[B]? = some (.cells (if done then v else z).toArray T)
theorem Box.keep {W W' : World} {base : Nat} {x : Value} {T : TypeId} {done : Bool} {z v : List Value} (h : Box W base x T done z v) (hm : Lay W W') : Box W' base x T done z v := by
  obtain ⟨B, rfl, hB, hc⟩ := h
  exact ⟨B, rfl, hB, (hm.1.block (Array.getElem?_eq_some_iff.1 hc).1).trans hc⟩
theorem Box.start {W : World} {base : Nat} (T : TypeId) (z v : List Value) (h : base ≤ W.heap.size) : Box (W.alloc (.cells z.toArray T)) base (.pointer (some ⟨W.heap.size, 0, none⟩)) T false z v :=
  ⟨_, rfl, h, alloc_last _ _⟩
theorem setC_block (w : World) (B o : Nat) (cs : List Value) {k : Nat} (h : k ≠ B) : (setC w B o cs).heap[k]? = w.heap[k]? := by
  induction cs generalizing w o with
  | nil => rfl
  | cons c r ih => rw [setC, ih, Below.heap_setCell _ _ _ _ h]
/-- A store into another box. -/
theorem Box.other {W : World} {base : Nat} {x : Value} {T : TypeId} {done : Bool} {z v : List Value} (h : Box W base x T done z v) {B : Nat} (hx : x ≠ .pointer (some ⟨B, 0, none⟩)) (cs : List Value) : Box (setC W B 0 cs) base x T done z v := by
  obtain ⟨B', rfl, hB, hc⟩ := h
  have : B' ≠ B := fun e => hx (by rw [e])
  exact ⟨B', rfl, hB, (setC_block _ _ _ _ this).trans hc⟩
theorem blk_lt {W : World} {B : Nat} {o : Obj} (h : W.heap[B]? = some o) : B < W.heap.size := (Array.getElem?_eq_some_iff.1 h).1
theorem setCell_heap {w : World} {B o : Nat} {v : Value} {arr : Array Value} {ty : TypeId} (h : w.heap[B]? = some (.cells arr ty)) : (w.setCell ⟨B, o, none⟩ v).heap[B]? = some (.cells (arr.setIfInBounds o v) ty) := by
  simp [World.setCell, Array.getElem?_modify, h]
theorem Box.at {W : World} {base : Nat} {x : Value} {T : TypeId} {done : Bool} {z v : List Value} (h : Box W base x T done z v) : ∃ B, x = .pointer (some ⟨B, 0, none⟩) ∧ base ≤ B ∧ W.heap[B]? = some (.cells (if done then v else z).toArray T) := h
theorem Box.lt {W : World} {base : Nat} {x : Value} {T : TypeId} {done : Bool} {z v : List Value} (h : Box W base x T done z v) {n : Nat} (hn : W.heap.size ≤ n) : x ≠ .pointer (some ⟨n, 0, none⟩) := by
  obtain ⟨B, rfl, hB, hc⟩ := h
  have := (Array.getElem?_eq_some_iff.1 hc).1
  intro e; cases e; omega
/-- Behind a base: the worlds since the base may have written to blocks from the base on. -/
theorem Lay.setC {w w1 : World} (h : Lay w w1) {B o : Nat} (hB : w.heap.size ≤ B) (cs : List Value) : Lay w (setC w1 B o cs) := by
  have hg := setC_grown w1 B o cs
  refine ⟨⟨hg.os.trans h.1.os, hg.tape.trans h.1.tape, hg.output.trans h.1.output, Nat.le_trans h.1.size hg.size, fun k hk _ => ?_⟩, ?_⟩
  · rw [setC_block _ _ _ _ (by omega)]; exact h.1.block hk
  · have : (YtemeppfikpafbaaGreatDoor.setC w1 B o cs).drawn = w1.drawn := by
      induction cs generalizing w1 o with
      | nil => rfl
      | cons c r ih =>
        rw [YtemeppfikpafbaaGreatDoor.setC]
        have h' : (w1.setCell ⟨B, o, none⟩ c).drawn = w1.drawn := rfl
        rw [← h']
        have hl : Lay w (w1.setCell ⟨B, o, none⟩ c) := ⟨⟨h.1.os, h.1.tape, h.1.output, by have := h.1.size; simp only [World.setCell]; simpa using this, fun k hk hne => by rw [Below.heap_setCell _ _ _ _ (show k ≠ B by omega)]; exact h.1.block hk⟩, h.2⟩
        exact ih hl (setC_grown _ _ _ _)
    rw [this]; exact h.2
end Go.Proofs.YtemeppfikpafbaaGreatDoor

/- rank.zero (63), rank.Degree (22). -/
namespace Go.Proofs.YtemeppfikpafbaaGreatDoor
open Go.RowKit
/-- A cause: its choices and its messages. -/
structure Cau where
  undo : List K4
  hold : List M3
instance : Inhabited Cau := ⟨⟨[], []⟩⟩
structure Cau.Ok (c : Cau) : Prop where
  undo : ∀ x ∈ c.undo, x.Ok
  hold : ∀ x ∈ c.hold, x.Ok
  lu : c.undo.length ≤ 400
  lh : c.hold.length ≤ 400
def Cau.size (c : Cau) : Nat := (nd c.undo).length + (nd c.hold).length
def degR (n : Nat) : Int × Int := if n = 0 then (0, 1) else (1, n)
end Go.Proofs.YtemeppfikpafbaaGreatDoor

/- Plain laws of ranks: the least size of a cause that has a key; the sorted shares. -/
namespace Go.Proofs.YtemeppfikpafbaaGreatDoor
open Go.RowKit Go.Sort Go.Shelf
/-- What ratio.Cmp answers. -/
def cmpR (x y : Int × Int) : Int := cmpI ((oneR x).1 * (oneR y).2) ((oneR y).1 * (oneR x).2)
theorem oneR_deg (n : Nat) : oneR (degR n) = degR n := by
  unfold degR oneR
  split <;> simp
theorem cmpR_zero (m n : Nat) : cmpR (degR m) (degR n) = 0 ↔ m = n := by
  unfold cmpR
  rw [oneR_deg, oneR_deg]
  unfold degR cmpI
  by_cases hm : m = 0 <;> by_cases hn : n = 0 <;> simp [hm, hn]
  · omega
  · split
    · omega
    · split <;> omega
theorem cmpR_neg (m n : Nat) : cmpR (degR m) (degR n) < 0 ↔ 0 < n ∧ (m = 0 ∨ n < m) := by
  unfold cmpR
  rw [oneR_deg, oneR_deg]
  unfold degR cmpI
  by_cases hm : m = 0 <;> by_cases hn : n = 0 <;> simp [hm, hn]
  · omega
  · split
    · omega
    · split <;> omega
end Go.Proofs.YtemeppfikpafbaaGreatDoor

/- ratio.Cmp (30) at degrees. -/
namespace Go.Proofs.YtemeppfikpafbaaGreatDoor
open Go.RowKit
/-- Two boxes of degrees, one behind the other. -/
structure Box2 (w : World) (b c : Nat) (x y : Int × Int) : Prop where
  x0 : w.cell? ⟨b, 0, none⟩ = some (.int .i64 x.1)
  x1 : w.cell? ⟨b, 1, none⟩ = some (.int .i64 x.2)
  y0 : w.cell? ⟨c, 0, none⟩ = some (.int .i64 y.1)
  y1 : w.cell? ⟨c, 1, none⟩ = some (.int .i64 y.2)
  f0 : w.frozen? ⟨b, 0, none⟩ = false
  f1 : w.frozen? ⟨b, 1, none⟩ = false
  g0 : w.frozen? ⟨c, 0, none⟩ = false
  g1 : w.frozen? ⟨c, 1, none⟩ = false
theorem Box2.lay {w w' : World} {b c : Nat} {x y : Int × Int} (h : Box2 w b c x y) (hl : Lay w w') : Box2 w' b c x y :=
  ⟨hl.1.cell h.x0, hl.1.cell h.x1, hl.1.cell h.y0, hl.1.cell h.y1, hl.1.frozen (cell_lt h.x0) h.f0, hl.1.frozen (cell_lt h.x1) h.f1, hl.1.frozen (cell_lt h.y0) h.g0, hl.1.frozen (cell_lt h.y1) h.g1⟩
theorem Box2.setX {w : World} {b c : Nat} {x y : Int × Int} (h : Box2 w b c x y) (hbc : b ≠ c) (z : Int × Int) : Box2 ((w.setCell ⟨b, 0, none⟩ (.int .i64 z.1)).setCell ⟨b, 1, none⟩ (.int .i64 z.2)) b c z y := by
  have n1 : ∀ (W : World) (o : Nat) (v : Value) (q : Nat), (W.setCell ⟨b, o, none⟩ v).cell? ⟨c, q, none⟩ = W.cell? ⟨c, q, none⟩ := fun W o v q => World.cell?_setCell_other _ _ _ _ (by intro e; cases e; exact hbc rfl)
  have e0 : (w.setCell ⟨b, 0, none⟩ (.int .i64 z.1)).cell? ⟨b, 1, none⟩ = some (.int .i64 x.2) := by rw [setCell_neq (by omega)]; exact h.x1
  refine ⟨?_, setCell_eq e0, by rw [n1, n1]; exact h.y0, by rw [n1, n1]; exact h.y1, ?_, ?_, ?_, ?_⟩
  · rw [setCell_neq (by omega)]; exact setCell_eq h.x0
  all_goals (rw [World.frozen?_setCell, World.frozen?_setCell])
  · exact h.f0
  · exact h.f1
  · exact h.g0
  · exact h.g1
theorem Box2.far {W : World} {b c B : Nat} {x y : Int × Int} (h : Box2 W b c x y) (hb : b ≠ B) (hc : c ≠ B) (cs : List Value) : Box2 (setC W B 0 cs) b c x y := by
  have e1 := setC_block W B 0 cs hb
  have e2 := setC_block W B 0 cs hc
  have k1 : ∀ o, (setC W B 0 cs).cell? ⟨b, o, none⟩ = W.cell? ⟨b, o, none⟩ := fun o => World.cell?_of_block (w := W) (a := ⟨b, o, none⟩) e1
  have k2 : ∀ o, (setC W B 0 cs).cell? ⟨c, o, none⟩ = W.cell? ⟨c, o, none⟩ := fun o => World.cell?_of_block (w := W) (a := ⟨c, o, none⟩) e2
  refine ⟨by rw [k1]; exact h.x0, by rw [k1]; exact h.x1, by rw [k2]; exact h.y0, by rw [k2]; exact h.y1, ?_, ?_, ?_, ?_⟩ <;> rw [setC_frozen]
  · exact h.f0
  · exact h.f1
  · exact h.g0
  · exact h.g1
end Go.Proofs.YtemeppfikpafbaaGreatDoor

/- Plain laws of ranks: the least size of a cause that has some keys; shares in their order. -/
namespace Go.Proofs.YtemeppfikpafbaaGreatDoor
open Go.RowKit Go.Sort Go.Shelf
/-- The loop over the causes: the least size above 0 of a cause that has the keys. -/
def jstep (ks : List K4) (b : Nat) (c : Cau) : Nat := if (∀ k ∈ ks, k ∈ c.undo) ∧ 0 < c.size ∧ (b = 0 ∨ c.size < b) then c.size else b
def jointN (l : List Cau) (ks : List K4) : Nat := l.foldl (jstep ks) 0
/-- What jointN is. -/
def IsJoint (l : List Cau) (ks : List K4) (n : Nat) : Prop :=
  (∀ c ∈ l, (∀ k ∈ ks, k ∈ c.undo) → 0 < c.size → 0 < n ∧ n ≤ c.size) ∧ (0 < n → ∃ c ∈ l, (∀ k ∈ ks, k ∈ c.undo) ∧ c.size = n)
theorem IsJoint.push {l : List Cau} {ks : List K4} {n : Nat} (h : IsJoint l ks n) (c : Cau) : IsJoint (l ++ [c]) ks (jstep ks n c) := by
  obtain ⟨h1, h2⟩ := h
  unfold jstep
  split
  · rename_i hc
    obtain ⟨ha, hp, hb⟩ := hc
    refine ⟨fun d hd hk hz => ?_, fun _ => ⟨c, by simp, ha, rfl⟩⟩
    rcases List.mem_append.1 hd with hd | hd
    · obtain ⟨h3, h4⟩ := h1 d hd hk hz
      exact ⟨hp, by omega⟩
    · obtain rfl := List.mem_singleton.1 hd
      exact ⟨hp, Nat.le_refl _⟩
  · rename_i hc
    refine ⟨fun d hd hk hz => ?_, fun hn => ?_⟩
    · rcases List.mem_append.1 hd with hd | hd
      · exact h1 d hd hk hz
      · obtain rfl := List.mem_singleton.1 hd
        have : ¬ (n = 0 ∨ d.size < n) := fun e => hc ⟨hk, hz, e⟩
        omega
    · obtain ⟨d, hd, r⟩ := h2 hn
      exact ⟨d, by simp [hd], r⟩
theorem isJoint_foldl (ks : List K4) : ∀ (r l : List Cau) (n : Nat), IsJoint l ks n → IsJoint (l ++ r) ks (r.foldl (jstep ks) n)
  | [], l, n, h => by simpa using h
  | c :: r, l, n, h => by
    have := isJoint_foldl ks r (l ++ [c]) _ (h.push c)
    simpa using this
theorem isJoint (l : List Cau) (ks : List K4) : IsJoint l ks (jointN l ks) := by
  have := isJoint_foldl ks l [] 0 ⟨by simp, by simp⟩
  unfold jointN
  simpa using this
theorem nd_pos {α : Type} [DecidableEq α] {l : List α} {x : α} (h : x ∈ l) : 0 < (nd l).length := List.length_pos_of_mem ((mem_nd l x).2 h)
theorem size_pos {c : Cau} {k : K4} (h : k ∈ c.undo) : 0 < c.size := by have := nd_pos h; unfold Cau.size; omega
theorem jointN_pos {l : List Cau} {k : K4} : 0 < jointN l [k] ↔ ∃ c ∈ l, k ∈ c.undo := by
  constructor
  · intro h
    obtain ⟨c, hc, ha, _⟩ := (isJoint l [k]).2 h
    exact ⟨c, hc, ha k (by simp)⟩
  · rintro ⟨c, hc, hk⟩
    exact ((isJoint l [k]).1 c hc (by simpa using hk) (size_pos hk)).1
/-- The order of shares: less of the denominator first (0 at the end), then by the key. -/
def ltN (m n : Nat) : Prop := 0 < m ∧ (n = 0 ∨ m < n)
def ltT (x y : K4 × Nat) : Prop := ltN x.2 y.2 ∨ (x.2 = y.2 ∧ ltK x.1 y.1)
instance (m n : Nat) : Decidable (ltN m n) := by unfold ltN; infer_instance
instance (x y : K4 × Nat) : Decidable (ltT x y) := by unfold ltT; infer_instance
theorem ltT_irrefl (x : K4 × Nat) : ¬ ltT x x := by
  rintro (h | ⟨_, h⟩)
  · unfold ltN at h; omega
  · exact ltK_irrefl _ h
theorem ltT_trans (x y z : K4 × Nat) (h : ltT x y) (k : ltT y z) : ltT x z := by
  rcases h with h | ⟨h, h'⟩ <;> rcases k with k | ⟨k, k'⟩
  · left; unfold ltN at *; omega
  · left; unfold ltN at *; omega
  · left; unfold ltN at *; omega
  · right; exact ⟨by omega, ltK_trans h' k'⟩
theorem ltT_tri (x y : K4 × Nat) (h : ¬ ltT x y) (k : ¬ ltT y x) : x = y := by
  obtain ⟨a, m⟩ := x
  obtain ⟨b, n⟩ := y
  unfold ltT at h k
  simp only at h k
  have hmn : m = n := by
    have h1 : ¬ ltN m n := fun e => h (Or.inl e)
    have h2 : ¬ ltN n m := fun e => k (Or.inl e)
    unfold ltN at h1 h2; omega
  subst hmn
  rw [ltK_tri (x := a) (y := b) (fun e => h (Or.inr ⟨rfl, e⟩)) (fun e => k (Or.inr ⟨rfl, e⟩))]
/-- A share: a key, a denominator. -/
abbrev Shr := K4 × Fin 1001
instance : Inhabited Shr := ⟨(default, 0)⟩
def shN (x : Shr) : K4 × Nat := (x.1, x.2.val)
theorem shN_inj {x y : Shr} (h : shN x = shN y) : x = y := by
  obtain ⟨a, m⟩ := x
  obtain ⟨b, n⟩ := y
  simp only [shN, Prod.mk.injEq] at h
  obtain ⟨rfl, h⟩ := h
  rw [Fin.eq_of_val_eq h]
def cfS (x y : Shr) : Int := orI [cmpR (degR y.2.val) (degR x.2.val), sgnK x.1 y.1]
theorem cfS_by : CmpBy cfS (fun x y => ltT (shN x) (shN y)) where
  neg x y := by
    unfold cfS ltT
    rw [orI_neg, orI_neg, orI_nil, cmpR_neg, cmpR_zero, sgnK_neg]
    simp only [shN, ltN]
    constructor
    · rintro (h | ⟨h, h' | h'⟩)
      · exact Or.inl h
      · exact Or.inr ⟨h.symm, h'⟩
      · exact absurd h'.2 (by omega)
    · rintro (h | ⟨h, h'⟩)
      · exact Or.inl h
      · exact Or.inr ⟨h.symm, Or.inl h'⟩
  irrefl x := ltT_irrefl _
  trans x y z := ltT_trans _ _ _
  tri x y h k := shN_inj (ltT_tri _ _ h k)
/-- The shares of some causes. -/
def IsShares (l : List Cau) (s : List (K4 × Nat)) : Prop := s.Pairwise ltT ∧ ∀ x, x ∈ s ↔ (0 < jointN l [x.1] ∧ x.2 = jointN l [x.1])
def ltKb (x y : K4) : Bool := decide (ltK x y)
theorem ltKb_iff (x y : K4) : ltKb x y = true ↔ ltK x y := by unfold ltKb; exact decide_eq_true_iff
end Go.Proofs.YtemeppfikpafbaaGreatDoor

