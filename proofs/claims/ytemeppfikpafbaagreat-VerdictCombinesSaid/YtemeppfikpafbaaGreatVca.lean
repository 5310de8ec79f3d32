/- Texts K0, SortF, InvR, laid together. -/
import Derived.Test.YtemeppfikpafbaaGreatProg
import Derived.Below
import Derived.Deep.Draws
import Derived.Laws.AppendOwn
import Derived.WalkKit
import Derived.WalkLawsBesides
import Derived.WalkSpells
import Derived.Outline
import Derived.Lib.Hide
import Derived.Deep.QuietTactic
import Derived.BigQuiet
import Derived.Deep.RegionHeld3
import Derived.Deep.RegionLaw
import Derived.Deep.AppendLies
import Derived.RegionTactic
import Derived.ChangeAlike
import Derived.Laws.IdiomCopy
import Derived.Shelf.SlSortCmp.NoneTotal
import Derived.BigRegion
/- Small facts on worlds and rows: shared by all texts of this seat. -/
namespace Go.Proofs.YtemeppfikpafbaaGreat
open Go.RowKit
theorem cell_lt {w : World} {b off : Nat} {v : Value} (h : w.cell? ⟨b, off, none⟩ = some v) : b < w.heap.size := by
  unfold World.cell? at h
  by_cases hb : b < w.heap.size
  · exact hb
  · simp [Array.getElem?_eq_none (Nat.le_of_not_lt hb)] at h
theorem below_cell {w w' : World} (hB : Below w.heap.size w w') {b off : Nat} {v : Value} (h : w.cell? ⟨b, off, none⟩ = some v) : w'.cell? ⟨b, off, none⟩ = some v := by
  rw [hB.cell (p := ⟨b, off, none⟩) (cell_lt h)]; exact h
theorem below_drewN (w : World) (n : Nat) (B : Nat) : Below B w (w.drewN n) := ⟨rfl, rfl, rfl, Nat.le_refl _, fun _ _ => rfl⟩
theorem owns_cell {w : World} {B : Nat} {e : TypeId} {n size : Nat} {v : Value} {xs : List Value} (h : w.ownsRow B e size v n xs) {j : Nat} {u : Value} (hj : xs[j]? = some u) :
    ∃ g cap, v = .slice (some ⟨g, 0, none⟩) n cap ∧ B ≤ g ∧ w.cell? ⟨g, j, none⟩ = some u := by
  obtain ⟨hl, h | ⟨g, cap, cur, hv, hB, hg, _, _, _, ht⟩⟩ := h
  · rw [h.2] at hl; simp at hl; subst hl; simp at hj
  · refine ⟨g, cap, hv, hB, ?_⟩
    simp only [World.cell?, hg]
    rw [← ht, List.getElem?_take] at hj
    split at hj
    · simpa using hj
    · cases hj
theorem owns_shape {w : World} {B : Nat} {e : TypeId} {n size : Nat} {v : Value} {xs : List Value} (h : w.ownsRow B e size v n xs) : ∃ a cap, v = .slice a n cap ∧ (∀ x, v.ownBlock = some x → B ≤ x ∧ x < w.heap.size) := by
  obtain ⟨hl, h | ⟨g, cap, cur, rfl, hB, hg, _, _, _, ht⟩⟩ := h
  · exact ⟨none, 0, by rw [h.1, h.2], fun x hx => by rw [h.1] at hx; simp [Value.ownBlock] at hx⟩
  · refine ⟨_, cap, rfl, fun x hx => ?_⟩
    have : g = x := by simpa [Value.ownBlock] using hx
    subst this
    refine ⟨hB, ?_⟩
    rcases Nat.lt_or_ge g w.heap.size with h | h
    · exact h
    · rw [Array.getElem?_eq_none h] at hg; cases hg
theorem owns_keep {w w' : World} {B : Nat} {e : TypeId} {n size : Nat} {v : Value} {xs : List Value} (h : w.ownsRow B e size v n xs) (hb : ∀ x, v.ownBlock = some x → w'.heap[x]? = w.heap[x]?) : w'.ownsRow B e size v n xs := by
  obtain ⟨hl, h | ⟨g, cap, cur, rfl, hB, hg, r⟩⟩ := h
  · exact ⟨hl, Or.inl h⟩
  · exact ⟨hl, Or.inr ⟨g, cap, cur, rfl, hB, by rw [hb g rfl]; exact hg, r⟩⟩
/-- The slice value v has n elements of 'size' cells each, which are xs. -/
def Row (S : Nat → Prop) (w : World) (size n : Nat) (v : Value) (xs : List Value) : Prop :=
  xs.length = n * size ∧ ∃ a cap, v = .slice a n cap ∧ n ≤ cap ∧ (n ≠ 0 → ∃ b off, a = some ⟨b, off, none⟩ ∧ S b ∧ ∀ j u, xs[j]? = some u → w.cell? ⟨b, off + j, none⟩ = some u)
theorem Row.shape {S : Nat → Prop} {w : World} {size n : Nat} {v : Value} {xs : List Value} (h : Row S w size n v xs) : ∃ a cap, v = .slice a n cap ∧ n ≤ cap := by
  obtain ⟨_, a, cap, rfl, hc, _⟩ := h; exact ⟨a, cap, rfl, hc⟩
theorem Row.at {S : Nat → Prop} {w : World} {size n len cap : Nat} {a : Option Addr} {xs : List Value} (h : Row S w size n (.slice a len cap) xs) (hn : n ≠ 0) :
    ∃ b off, a = some ⟨b, off, none⟩ ∧ len = n ∧ S b ∧ ∀ j u, xs[j]? = some u → w.cell? ⟨b, off + j, none⟩ = some u := by
  obtain ⟨_, a', cap', he, _, hr⟩ := h
  cases he
  obtain ⟨b, off, rfl, hS, hc⟩ := hr hn
  exact ⟨b, off, rfl, rfl, hS, hc⟩
theorem Row.nil (S : Nat → Prop) (w : World) (size : Nat) (a : Option Addr) (cap : Nat) : Row S w size 0 (.slice a 0 cap) [] :=
  ⟨by simp, a, cap, rfl, Nat.zero_le _, fun h => absurd rfl h⟩
theorem Row.mono2 {S S' : Nat → Prop} {w w' : World} {size n : Nat} {v : Value} {xs : List Value} (hs : 0 < size) (hw : ∀ b off u, S b → w.cell? ⟨b, off, none⟩ = some u → S' b ∧ w'.cell? ⟨b, off, none⟩ = some u) (h : Row S w size n v xs) : Row S' w' size n v xs := by
  obtain ⟨hl, a, cap, rfl, hc, hr⟩ := h
  refine ⟨hl, a, cap, rfl, hc, fun hn => ?_⟩
  obtain ⟨b, off, rfl, hS, hcell⟩ := hr hn
  have h0 : 0 < xs.length := by rw [hl]; exact Nat.mul_pos (by omega) hs
  exact ⟨b, off, rfl, (hw _ _ _ hS (hcell 0 xs[0] (List.getElem?_eq_getElem h0))).1, fun j u hj => (hw _ _ _ hS (hcell j u hj)).2⟩
theorem Row.mono {S S' : Nat → Prop} {w w' : World} {size n : Nat} {v : Value} {xs : List Value} (hS : ∀ b, S b → S' b) (hw : ∀ b off u, S b → w.cell? ⟨b, off, none⟩ = some u → w'.cell? ⟨b, off, none⟩ = some u) (h : Row S w size n v xs) : Row S' w' size n v xs := by
  obtain ⟨hl, a, cap, rfl, hc, hr⟩ := h
  refine ⟨hl, a, cap, rfl, hc, fun hn => ?_⟩
  obtain ⟨b, off, rfl, hb, hcell⟩ := hr hn
  exact ⟨b, off, rfl, hS b hb, fun j u hj => hw _ _ _ hb (hcell j u hj)⟩
theorem Row.below {S : Nat → Prop} {w w' : World} {size n : Nat} {v : Value} {xs : List Value} (hB : Below w.heap.size w w') (h : Row S w size n v xs) : Row S w' size n v xs :=
  h.mono (fun _ h => h) (fun _ _ _ _ h => below_cell hB h)
/-- A row that append has made. -/
theorem Row.of_owns {w : World} {B : Nat} {e : TypeId} {n size : Nat} {v : Value} {xs : List Value} (h : w.ownsRow B e size v n xs) : Row (fun x => B ≤ x) w size n v xs := by
  obtain ⟨hl, h | ⟨g, cap, cur, rfl, hB, hg, hnc, _, _, ht⟩⟩ := h
  · obtain ⟨rfl, rfl⟩ := h
    have : xs = [] := by simpa using hl
    subst this
    exact Row.nil _ _ _ _ _
  · refine ⟨hl, _, cap, rfl, hnc, fun _ => ⟨g, 0, rfl, hB, fun j u hj => ?_⟩⟩
    simp only [World.cell?, hg, Nat.zero_add]
    rw [← ht, List.getElem?_take] at hj
    split at hj
    · simpa using hj
    · cases hj
/-- What is left behind the first k elements. -/
theorem Row.drop {S : Nat → Prop} {w : World} {size n cap k : Nat} {b off : Nat} {xs : List Value} (h : Row S w size n (.slice (some ⟨b, off, none⟩) n cap) xs) (hk : k ≤ n) :
    Row S w size (n - k) (.slice (some ⟨b, off + k * size, none⟩) (n - k) (cap - k)) (xs.drop (k * size)) := by
  obtain ⟨hl, a, cap', he, hc, hr⟩ := h
  cases he
  refine ⟨by rw [List.length_drop, hl, Nat.sub_mul], _, _, rfl, by omega, fun hn => ?_⟩
  obtain ⟨b', off', he', hS, hcell⟩ := hr (by omega)
  cases he'
  refine ⟨b, off + k * size, rfl, hS, fun j u hj => ?_⟩
  rw [List.getElem?_drop] at hj
  rw [Nat.add_assoc]
  exact hcell _ _ hj
theorem thaw {w : World} {M : Nat} {arr : Array Value} {ty : TypeId} (h : w.heap[M]? = some (.cells arr ty)) (o : Nat) : w.frozen? ⟨M, o, none⟩ = false := by
  simp [World.frozen?, h]
theorem alloc_last (w : World) (o : Obj) : (w.alloc o).heap[w.heap.size]? = some o := by
  show (w.heap.push o)[w.heap.size]? = _
  simp
theorem alloc_at (w : World) (o : Obj) {n : Nat} (h : n = w.heap.size) : (w.alloc o).heap[n]? = some o := by subst h; exact alloc_last w o
theorem alloc_cell {w : World} (ob : Obj) {b o : Nat} {v : Value} (hc : w.cell? ⟨b, o, none⟩ = some v) : (w.alloc ob).cell? ⟨b, o, none⟩ = some v := by
  rw [World.cell?_of_block (w := w) (a := ⟨b, o, none⟩) (Below.heap_alloc w ob b (cell_lt hc))]; exact hc
theorem alloc_thaw {w : World} (ob : Obj) {b o : Nat} {v : Value} (hc : w.cell? ⟨b, o, none⟩ = some v) (hf : w.frozen? ⟨b, o, none⟩ = false) : (w.alloc ob).frozen? ⟨b, o, none⟩ = false := by
  rw [World.frozen?_of_block (w := w) (a := ⟨b, o, none⟩) (Below.heap_alloc w ob b (cell_lt hc))]; exact hf
theorem find_first {α : Type} (l : List α) (p : α → Bool) (k : Nat) (hk : k < l.length) (h : p l[k] = true) (hn : ∀ i (_ : i < k), p (l[i]'(by omega)) = false) : l.find? p = some l[k] := by
  induction l generalizing k with
  | nil => simp at hk
  | cons x xs ih =>
    cases k with
    | zero => simp only [List.getElem_cons_zero] at h; simp [List.find?, h]
    | succ k =>
      have h0 := hn 0 (by omega)
      simp only [List.getElem_cons_zero] at h0
      simp only [List.find?, h0, List.getElem_cons_succ]
      exact ih k (by simpa using hk) (by simpa using h) (fun i hi => by have := hn (i + 1) (by omega); simpa using this)
theorem Row.take {S : Nat → Prop} {w : World} {size n cap k : Nat} {a : Option Addr} {xs : List Value} (h : Row S w size n (.slice a n cap) xs) (hk : k ≤ n) : Row S w size k (.slice a k cap) (xs.take (k * size)) := by
  obtain ⟨hl, a', cap', he, hc, hr⟩ := h
  cases he
  refine ⟨by rw [List.length_take, hl]; exact Nat.min_eq_left (Nat.mul_le_mul_right _ hk), _, _, rfl, by omega, fun hn => ?_⟩
  obtain ⟨b, off, rfl, hS, hcell⟩ := hr (by omega)
  refine ⟨b, off, rfl, hS, fun j u hj => ?_⟩
  rw [List.getElem?_take] at hj
  split at hj
  · exact hcell _ _ hj
  · cases hj
theorem setCell_eq {w : World} {B x : Nat} {u v : Value} (h : w.cell? ⟨B, x, none⟩ = some v) : (w.setCell ⟨B, x, none⟩ u).cell? ⟨B, x, none⟩ = some u := World.cell?_setCell_same _ _ _ h
theorem setCell_neq {w : World} {B x y : Nat} {u : Value} (h : x ≠ y) : (w.setCell ⟨B, x, none⟩ u).cell? ⟨B, y, none⟩ = w.cell? ⟨B, y, none⟩ := World.cell?_setCell_other _ _ _ _ (by intro e; cases e; exact h rfl)
theorem grownBy_trans {a b c : World} {r : Option Nat} (h : a.grownBy b r) (k : b.grownBy c r) : a.grownBy c r :=
  ⟨k.os.trans h.os, k.tape.trans h.tape, k.output.trans h.output, Nat.le_trans h.size k.size, fun i hi hr => (k.block i (Nat.lt_of_lt_of_le hi h.size) hr).trans (h.block i hi hr)⟩
theorem grownBy_drew (w : World) (r : Option Nat) : w.grownBy w.drew r := ⟨rfl, rfl, rfl, Nat.le_refl _, fun _ _ _ => rfl⟩
theorem grownBy_drewN (w : World) (n : Nat) (r : Option Nat) : w.grownBy (w.drewN n) r := ⟨rfl, rfl, rfl, Nat.le_refl _, fun _ _ _ => rfl⟩
theorem grownBy_alloc2 (w : World) (o o' : Obj) (r : Option Nat) : w.grownBy ((w.alloc o).alloc o') r := grownBy_trans (World.grownBy_alloc w o r) (World.grownBy_alloc _ o' r)
/-- A world with more blocks. -/
def More (w w' : World) : Prop := w.grownBy w' none
theorem More.cell {w w' : World} (h : More w w') {b o : Nat} {v : Value} (hc : w.cell? ⟨b, o, none⟩ = some v) : w'.cell? ⟨b, o, none⟩ = some v := World.grownBy.cell h hc (by simp)
theorem More.block {w w' : World} (h : More w w') {b : Nat} (hb : b < w.heap.size) : w'.heap[b]? = w.heap[b]? := World.grownBy.block h b hb (by simp)
theorem More.frozen {w w' : World} (h : More w w') {b o : Nat} (hb : b < w.heap.size) (hf : w.frozen? ⟨b, o, none⟩ = false) : w'.frozen? ⟨b, o, none⟩ = false := (World.frozen?_of_block (w := w) (h.block hb)).trans hf
theorem More.below {w w' : World} (h : More w w') : Below w.heap.size w w' := ⟨h.os, h.tape, h.output, h.size, fun _k hk => h.block hk⟩
theorem grownBy_more {w0 w w' : World} {r : Option Nat} (h : w0.grownBy w r) (k : More w w') : w0.grownBy w' r :=
  grownBy_trans h ⟨k.os, k.tape, k.output, k.size, fun _i hi _ => k.block hi⟩
theorem more_drew (w : World) : More w w.drew := grownBy_drew w none
theorem more_trans {a b c : World} (h : More a b) (k : More b c) : More a c := grownBy_trans h k
theorem more_of {w w' : World} (h : Below w.heap.size w w') : More w w' := ⟨h.os, h.tape, h.output, h.size, fun k hk _ => h.block k hk⟩

theorem cell_of_blk {w : World} {b j : Nat} {arr : Array Value} {ty : TypeId} {u : Value} (h : w.heap[b]? = some (.cells arr ty)) (hj : arr[j]? = some u) : w.cell? ⟨b, j, none⟩ = some u := by
  simp only [World.cell?, h]
  simpa using hj
/-- More blocks, and the tape's place has not gone back. -/
def Lay (w w' : World) : Prop := More w w' ∧ w.drawn ≤ w'.drawn
theorem Lay.refl (w : World) : Lay w w := ⟨World.grownBy.refl _ _, Nat.le_refl _⟩
theorem Lay.trans {a b c : World} (h : Lay a b) (k : Lay b c) : Lay a c := ⟨more_trans h.1 k.1, Nat.le_trans h.2 k.2⟩
theorem Lay.alloc (w : World) (o : Obj) : Lay w (w.alloc o) := ⟨World.grownBy_alloc _ _ _, Nat.le_refl _⟩
theorem Lay.drew (w : World) : Lay w w.drew := ⟨more_drew w, Nat.le_succ _⟩
theorem Lay.drewN (w : World) (n : Nat) : Lay w (w.drewN n) := ⟨grownBy_drewN w n none, by simp [World.drewN]⟩
/-- A list's cells, k of each element. -/
def flatC {α : Type} (c : α → List Value) (l : List α) : List Value := l.flatMap c
theorem flatC_len {α : Type} {c : α → List Value} {k : Nat} (hc : ∀ x, (c x).length = k) (l : List α) : (flatC c l).length = l.length * k := by
  unfold flatC
  induction l with
  | nil => simp
  | cons x xs ih => rw [List.flatMap_cons, List.length_append, hc, ih, List.length_cons, Nat.add_mul]; omega
theorem flatC_get {α : Type} {c : α → List Value} {k : Nat} (hc : ∀ x, (c x).length = k) : ∀ (l : List α) (i : Nat) (hi : i < l.length) (j : Nat) (u : Value), (c l[i])[j]? = some u → (flatC c l)[i * k + j]? = some u
  | x :: xs, 0, _, j, u, h => by
    have hj : j < (c x).length := by
      rcases Nat.lt_or_ge j (c x).length with h' | h'
      · exact h'
      · simp only [List.getElem_cons_zero] at h; rw [List.getElem?_eq_none h'] at h; cases h
    unfold flatC
    rw [List.flatMap_cons, Nat.zero_mul, Nat.zero_add, List.getElem?_append_left hj]
    simpa using h
  | x :: xs, i + 1, hi, j, u, h => by
    have := flatC_get hc xs i (by simpa using hi) j u (by simpa using h)
    unfold flatC at this ⊢
    rw [List.flatMap_cons, List.getElem?_append_right (by rw [hc, Nat.add_mul]; omega), hc, show (i + 1) * k + j - k = i * k + j by rw [Nat.add_mul]; omega]
    exact this
  | [], _, hi, _, _, _ => by simp at hi
theorem flatC_push {α : Type} (c : α → List Value) (l : List α) (x : α) : flatC c (l ++ [x]) = flatC c l ++ c x := by unfold flatC; simp
theorem flatC_append {α : Type} (c : α → List Value) (l m : List α) : flatC c (l ++ m) = flatC c l ++ flatC c m := by unfold flatC; simp
theorem flatC_take {α : Type} {c : α → List Value} {k : Nat} (hc : ∀ x, (c x).length = k) (l : List α) (n : Nat) : flatC c (l.take n) = (flatC c l).take (n * k) := by
  induction l generalizing n with
  | nil => simp [flatC]
  | cons x xs ih =>
    cases n with
    | zero => simp [flatC]
    | succ n =>
      have := ih n
      unfold flatC at this ⊢
      rw [List.take_succ_cons, List.flatMap_cons, List.flatMap_cons, this, Nat.add_mul, Nat.one_mul, List.take_append, hc, Nat.add_sub_cancel, List.take_of_length_le (l := c x) (by rw [hc]; omega)]
theorem flatC_drop {α : Type} {c : α → List Value} {k : Nat} (hc : ∀ x, (c x).length = k) (l : List α) (n : Nat) : flatC c (l.drop n) = (flatC c l).drop (n * k) := by
  induction l generalizing n with
  | nil => simp [flatC]
  | cons x xs ih =>
    cases n with
    | zero => simp
    | succ n =>
      have := ih n
      unfold flatC at this ⊢
      rw [List.drop_succ_cons, List.flatMap_cons, this, Nat.add_mul, Nat.one_mul, List.drop_append, hc, Nat.add_sub_cancel, List.drop_of_length_le (l := c x) (by rw [hc]; omega), List.nil_append]
/-- A cell of a row of structs. -/
theorem Row.atC {α : Type} {c : α → List Value} {k : Nat} (hc : ∀ x, (c x).length = k) {S : Nat → Prop} {w : World} {l : List α} {a : Option Addr} {len cap : Nat} (h : Row S w k l.length (.slice a len cap) (flatC c l)) {i : Nat} (hi : i < l.length) :
    ∃ b off, a = some ⟨b, off, none⟩ ∧ S b ∧ ∀ j u, (c l[i])[j]? = some u → w.cell? ⟨b, off + i * k + j, none⟩ = some u := by
  obtain ⟨b, off, rfl, _, hS, hcell⟩ := h.at (by omega)
  exact ⟨b, off, rfl, hS, fun j u hj => by rw [Nat.add_assoc]; exact hcell _ _ (flatC_get hc l i hi j u hj)⟩
theorem Row.takeC {α : Type} {c : α → List Value} {k : Nat} (hc : ∀ x, (c x).length = k) {S : Nat → Prop} {w : World} {l : List α} {a : Option Addr} {cap n : Nat} (h : Row S w k l.length (.slice a l.length cap) (flatC c l)) (hn : n ≤ l.length) : Row S w k (l.take n).length (.slice a (l.take n).length cap) (flatC c (l.take n)) := by
  have hl : (l.take n).length = n := by rw [List.length_take]; omega
  rw [hl, flatC_take hc]
  exact h.take hn
/-- A block that is known whole, as a row. -/
theorem row_blkC {α : Type} {c : α → List Value} {k : Nat} (hc : ∀ x, (c x).length = k) {S : Nat → Prop} {w : World} {b cap : Nat} {arr : Array Value} {ty : TypeId} {l : List α} (h : w.heap[b]? = some (.cells arr ty)) (hx : arr.toList = flatC c l) (hcap : l.length ≤ cap) (hS : S b) : Row S w k l.length (.slice (some ⟨b, 0, none⟩) l.length cap) (flatC c l) := by
  refine ⟨flatC_len hc l, _, _, rfl, hcap, fun _ => ⟨b, 0, rfl, hS, fun j u hj => ?_⟩⟩
  rw [← hx] at hj
  rw [Nat.zero_add]
  simpa [World.cell?, h] using hj
/-- Neighbouring cells are written. -/
def setC (w : World) (B o : Nat) : List Value → World
  | [] => w
  | a :: r => setC (w.setCell ⟨B, o, none⟩ a) B (o + 1) r
theorem setC_frozen (w : World) (B o : Nat) (a : Addr) (cs : List Value) : (setC w B o cs).frozen? a = w.frozen? a := by
  induction cs generalizing w o with
  | nil => rfl
  | cons c r ih => rw [setC, ih, World.frozen?_setCell]
theorem setC_far {w : World} {B o q : Nat} {cs : List Value} (h : q < o ∨ o + cs.length ≤ q) : (setC w B o cs).cell? ⟨B, q, none⟩ = w.cell? ⟨B, q, none⟩ := by
  induction cs generalizing w o with
  | nil => rfl
  | cons c r ih =>
    simp only [List.length_cons] at h
    rw [setC, ih (by omega), setCell_neq (by omega)]
theorem setC_at : ∀ (cs : List Value) {w : World} {B o j : Nat} {u v : Value}, cs[j]? = some u → w.cell? ⟨B, o + j, none⟩ = some v → (setC w B o cs).cell? ⟨B, o + j, none⟩ = some u
  | c :: r, w, B, o, 0, u, v, hu, hv => by
    rw [setC, setC_far (by omega)]
    simp at hu; subst hu
    exact setCell_eq hv
  | c :: r, w, B, o, j + 1, u, v, hu, hv => by
    rw [setC, show o + (j + 1) = o + 1 + j by omega]
    refine setC_at r (v := v) (by simpa using hu) ?_
    rw [setCell_neq (by omega), show o + 1 + j = o + (j + 1) by omega]
    exact hv
  | [], _, _, _, _, _, _, hu, _ => by simp at hu
theorem setC_grown (w : World) (B o : Nat) (cs : List Value) : w.grownBy (setC w B o cs) (some B) := by
  induction cs generalizing w o with
  | nil => exact World.grownBy.refl _ _
  | cons c r ih =>
    rw [setC]
    refine grownBy_trans (b := w.setCell ⟨B, o, none⟩ c) ⟨rfl, rfl, rfl, by simp [World.setCell], fun k _ hne => ?_⟩ (ih _ _)
    have hk : k ≠ B := fun e => hne (by rw [e])
    exact Below.heap_setCell _ _ _ _ hk
/-- The elements d lie in block B from off on, and may be written. -/
def HoldC {α : Type} [Inhabited α] (c : α → List Value) (k : Nat) (w : World) (B off : Nat) (d : Array α) : Prop :=
  ∀ i, i < d.size → ∀ j u, (c d[i]!)[j]? = some u → w.cell? ⟨B, off + i * k + j, none⟩ = some u ∧ w.frozen? ⟨B, off + i * k + j, none⟩ = false
section
variable {α : Type} [Inhabited α] {c : α → List Value} {k : Nat}
theorem HoldC.keep {w w' : World} {B off : Nat} {d : Array α} (h : HoldC c k w B off d) (hw : w'.heap[B]? = w.heap[B]?) : HoldC c k w' B off d := fun i hi j u hj => by
  obtain ⟨h1, h2⟩ := h i hi j u hj
  exact ⟨(World.cell?_of_block (w := w) hw).trans h1, (World.frozen?_of_block (w := w) hw).trans h2⟩
theorem HoldC.set {w : World} {B off : Nat} {d : Array α} (hc : ∀ x, (c x).length = k) (h : HoldC c k w B off d) {i : Nat} (hi : i < d.size) (x : α) : HoldC c k (setC w B (off + i * k) (c x)) B off (d.setIfInBounds i x) := by
  intro j hj q u hq
  have hj' : j < d.size := by simpa using hj
  have hqk : ∀ y : α, (c y)[q]? = some u → q < k := fun y hy => by
    rcases Nat.lt_or_ge q (c y).length with h' | h'
    · rw [hc] at h'; exact h'
    · rw [List.getElem?_eq_none h'] at hy; cases hy
  rw [setC_frozen]
  by_cases e : j = i
  · subst e
    have hx : (d.setIfInBounds j x)[j]! = x := by simp [hj']
    rw [hx] at hq
    have hqk' := hqk _ hq
    obtain ⟨h1, h2⟩ := h j hj' q ((c d[j]!)[q]'(by rw [hc]; exact hqk')) (List.getElem?_eq_getElem _)
    exact ⟨setC_at _ hq h1, h2⟩
  · have hx : (d.setIfInBounds i x)[j]! = d[j]! := by simp [hj', Ne.symm e]
    rw [hx] at hq
    have hqk' := hqk _ hq
    obtain ⟨h1, h2⟩ := h j hj' q u hq
    refine ⟨?_, h2⟩
    rw [setC_far]
    · exact h1
    · rw [hc]
      rcases Nat.lt_or_gt_of_ne e with hlt | hlt
      · left
        have := Nat.mul_le_mul_right k (show j + 1 ≤ i by omega)
        rw [Nat.add_mul] at this; omega
      · right
        have := Nat.mul_le_mul_right k (show i + 1 ≤ j by omega)
        rw [Nat.add_mul] at this; omega
end
end Go.Proofs.YtemeppfikpafbaaGreat

/- slices.SortFunc at a row of the call's own, of structs of k cells: the shelf's contract in this seat's words. -/
namespace Go.Proofs.YtemeppfikpafbaaGreat
open Go.RowKit Go.Sort Go.Shelf Go.Lib
theorem Lay.grow {w w' : World} (h : Lay w w') : ∃ q os, w' = grow (w.drewN q) os := by
  obtain ⟨⟨h1, h2, h3, h4, h5⟩, hd⟩ := h
  refine ⟨w'.drawn - w.drawn, w'.heap.extract w.heap.size w'.heap.size, ?_⟩
  obtain ⟨heap, tape, drawn, os, output⟩ := w
  obtain ⟨heap', tape', drawn', os', output'⟩ := w'
  simp only at h1 h2 h3 h4 h5 hd
  subst h1 h2 h3
  unfold Sort.grow World.drewN
  simp only [World.mk.injEq, true_and, and_true]
  refine ⟨?_, by omega⟩
  apply Array.ext_getElem?
  intro i
  by_cases hi : i < heap.size
  · rw [Array.getElem?_append_left hi]; exact h5 i hi (by simp)
  · rw [Array.getElem?_append_right (by omega), Array.getElem?_extract]
    by_cases hi' : i < heap'.size
    · rw [if_pos (by omega), show heap.size + (i - heap.size) = i by omega]
    · rw [if_neg (by omega), Array.getElem?_eq_none (by omega)]
section
variable {α : Type} [Inhabited α] {enc : α → List Value} {k : Nat}
theorem flatK_list (hk : ∀ x, (enc x).length = k) (hk0 : 0 < k) (l : List α) : (flatK enc k l.toArray).toList = flatC enc l := by
  apply List.ext_getElem?
  intro t
  by_cases ht : t < l.length * k
  · have hq : t / k < l.length := (Nat.div_lt_iff_lt_mul hk0).2 ht
    have hr : t % k < k := Nat.mod_lt _ hk0
    have hu : (enc l[t / k])[t % k]? = some ((enc l[t / k])[t % k]'(by rw [hk]; exact hr)) := List.getElem?_eq_getElem _
    have h1 := flatC_get hk l (t / k) hq (t % k) _ hu
    rw [Nat.div_add_mod'] at h1
    rw [h1, Array.getElem?_toList, Array.getElem?_eq_getElem (by simpa using ht)]
    have h2 := get_flatK enc k l.toArray t (by simpa using ht)
    rw [getElem!_pos _ t (by simpa using ht)] at h2
    rw [h2]
    have e1 : l.toArray[t / k]! = l[t / k] := by rw [getElem!_pos _ _ (by simpa using hq)]; simp
    rw [e1]
    congr 1
    exact getElem!_pos _ _ (by rw [hk]; exact hr)
  · rw [List.getElem?_eq_none (by simp; omega), List.getElem?_eq_none (by rw [flatC_len hk]; omega)]
theorem holdsK_of {w : World} {g : Nat} {cur : Array Value} {e : TypeId} {l : List α} (hk : ∀ x, (enc x).length = k) (hk0 : 0 < k) (hb : w.heap[g]? = some (.cells cur e (0, 0))) (ht : cur.toList.take (l.length * k) = flatC enc l) : HoldsK enc k w g 0 l.toArray := by
  intro j hj
  have hj' : j < l.length * k := by simpa using hj
  refine ⟨?_, by simp [World.frozen?, hb]⟩
  have h1 : (cur.toList.take (l.length * k))[j]? = (flatC enc l)[j]? := by rw [ht]
  rw [List.getElem?_take_of_lt hj', ← flatK_list hk hk0] at h1
  simp only [World.cell?, hb, Nat.zero_add]
  simp only [Option.isSome_none, Bool.false_eq_true, if_false]
  rw [← Array.getElem?_toList, h1, Array.getElem?_toList, Array.getElem?_eq_getElem hj, getElem!_pos _ j hj]
  rfl
theorem heapK_sorted {w : World} {g n : Nat} {os : Array Obj} {cur : Array Value} {e : TypeId} {fr : Nat × Nat} (d : Array Value) (hb : w.heap[g]? = some (.cells cur e fr)) :
    (Sort.grow (putRow id (Sort.ahead w n) g 0 d) os).heap[g]? = some (.cells (putCells id 0 d cur) e fr) := by
  have hg : g < w.heap.size := (Array.getElem?_eq_some_iff.1 hb).1
  rw [heap_grow_old _ _ (by simpa using hg)]
  simp [putRow, mapBlock, Sort.ahead, Array.getElem?_modify, hb, onCells]
theorem grownK_sorted {w : World} {g n : Nat} {os : Array Obj} (d : Array Value) : w.grownBy (Sort.grow (putRow id (Sort.ahead w n) g 0 d) os) (some g) := by
  refine ⟨rfl, rfl, rfl, by simp, fun k hk hne => ?_⟩
  rw [heap_grow_old _ _ (by simpa using hk)]
  have : g ≠ k := fun e => hne (by rw [e])
  simp [putRow, mapBlock, Sort.ahead, Array.getElem?_modify, this]
theorem takeK_put (cur : Array Value) (d : Array Value) (h : d.size ≤ cur.size) : (putCells id 0 d cur).toList.take d.size = d.toList := by
  apply List.ext_getElem?
  intro j
  by_cases hj : j < d.size
  · rw [List.getElem?_take_of_lt hj, Array.getElem?_toList]
    simp [putCells, hj, show j < cur.size by omega]
  · rw [List.getElem?_take_eq_none (by omega), List.getElem?_eq_none (by simp; omega)]
variable {ρ : Ren}
/-- The comparison, in whatever world. -/
def CmpSaid (g : Nat) (enc : α → List Value) (cf : α → α → Int) : Prop := ∀ (x y : α) (W : World), Calls Tryz.prog g #[.agg (enc x).toArray, .agg (enc y).toArray] W fun e w' => e = .returned (.int .i64 (cf x y)) ∧ Lay W w'
/-- WHAT THE ROW HOLDS BEHIND slices.SortFunc, under a comparison that parts whatever two that are not one. -/
theorem sortF (L : SlLaysF0.n6 Tryz.prog ρ) (aE : ∀ w, (isAgg (ρ.t 24)).run Tryz.prog w = .ok true w) (zE : ∀ w, (Go.sizeOf (ρ.t 24)).run Tryz.prog w = .ok k w) (hk : ∀ x, (enc x).length = k) (hk0 : 0 < k) (h1 : ∀ x, ∀ v ∈ enc x, v.oneCell' = true) (cf : α → α → Int) (hO : SWO (ltOf cf)) (hT : ∀ x y, (ltOf cf) x y = false → (ltOf cf) y x = false → x = y) (g : Nat)
    (eg : ∀ args w, (callFunc g args).run Tryz.prog w = .ok (.enter g args) w) (hcmp : CmpSaid g enc cf) (l : List α) (v : Value) (B : Nat) (E : TypeId) (w : World) (hl : l.length < 4611686018427387904) (hown : w.ownsRow B E k v l.length (flatC enc l)) :
    Calls Tryz.prog (ρ.f 6) #[v, .func (.func g) #[] #[]] w fun e w' => e = .returned (.tuple #[]) ∧ w.grownBy w' v.ownBlock ∧ w'.ownsRow B E k v l.length (flatC enc (l.mergeSort fun x y => !(ltOf cf) y x)) := by
  obtain ⟨hlen, h0 | ⟨b, cap, cur, rfl, hB, hb, hnc, hcm, hcs, ht⟩⟩ := hown
  · obtain ⟨rfl, hn⟩ := h0
    obtain rfl : l = [] := List.eq_nil_of_length_eq_zero hn
    refine (AnyF.slices_SortFunc_none (P := Tryz.prog) (ρ := ρ) L none 0 _ w).mono ?_
    rintro e w' ⟨rfl, rfl⟩
    exact ⟨rfl, World.grownBy.refl _ _, by simp [flatC]; exact World.ownsRow_nil _ _ _ _⟩
  · have ht' : cur.toList.take (l.length * k) = flatC enc l := ht
    have hH := holdsK_of hk hk0 hb ht'
    have hblk : b < w.heap.size := (Array.getElem?_eq_some_iff.1 hb).1
    have hC : CmpLays Tryz.prog g #[] enc k cf b 0 l.toArray.size w := fun m os dk _ x y => by
      refine (hcmp x y _).mono ?_
      rintro e w' ⟨he, hlay⟩
      exact ⟨he, hlay.grow⟩
    have h := AnyQ.slices_SortFunc_total L k aE zE enc hk h1 cf hO g #[] b 0 cap l.toArray w eg hC hH hblk (by simpa using hl) hT
    rw [List.size_toArray] at h
    refine h.mono ?_
    rintro e w' ⟨rfl, n, os, rfl⟩
    have hms : (l.mergeSort fun x y => !(ltOf cf) y x).length = l.length := List.length_mergeSort _
    refine ⟨rfl, grownK_sorted _, ⟨by rw [flatC_len hk, hms], Or.inr ⟨b, cap, _, rfl, hB, heapK_sorted _ hb, hnc, hcm, by simpa [putCells] using hcs, ?_⟩⟩⟩
    have hfs : (flatK enc k (l.mergeSort fun x y => !(ltOf cf) y x).toArray).size = l.length * k := by simp [hms]
    have := takeK_put cur (flatK enc k (l.mergeSort fun x y => !(ltOf cf) y x).toArray) (by rw [hfs, hcs]; exact Nat.mul_le_mul_right _ hnc)
    rw [hfs, flatK_list hk hk0] at this
    exact this
end
end Go.Proofs.YtemeppfikpafbaaGreat

/- A region that draws its order, by one invariant: each operation is proved once, not once an order. -/
namespace Go.Proofs.YtemeppfikpafbaaGreat
/-- How many have not come up yet. -/
def Region.left (listed : Array Bool) : Nat := (listed.toList.filter (fun b => !b)).length
theorem Region.left_set {listed : Array Bool} {i : Nat} (h : listed.getD i true = false) : Region.left (listed.setIfInBounds i true) + 1 = Region.left listed := by
  obtain ⟨l⟩ := listed
  unfold Region.left
  simp only [List.setIfInBounds_toArray]
  simp only [Array.getD_eq_getD_getElem?, List.getElem?_toArray] at h
  induction l generalizing i with
  | nil => simp at h
  | cons b t ih =>
    cases i with
    | zero => simp at h; subst h; simp
    | succ i =>
      simp only [List.getElem?_cons_succ] at h
      have := ih h
      cases b <;> simp [List.set_cons_succ] at this ⊢ <;> omega
section
variable {P : Program} {ops : Array Oper} {Q : Exit → Act → World → Prop} {md : Region.Mode}
theorem wpAny_inv (I : Array Bool → Act → World → Prop)
    (step : ∀ listed a w i, I listed a w → listed.getD i true = false → i ∈ Region.ready md ops listed → wpOp P ops Q i (I (listed.setIfInBounds i true)) a w)
    (last : ∀ listed a w, I listed a w → Region.ready md ops listed = [] → Q .normal a w) :
    ∀ (fuel : Nat) (listed : Array Bool) (a : Act) (w : World), Region.left listed ≤ fuel → I listed a w → wpAny P md ops Q fuel listed a w := by
  intro fuel
  induction fuel with
  | zero =>
    intro listed a w hf h
    have hr : Region.ready md ops listed = [] := by
      cases e : Region.ready md ops listed with
      | nil => rfl
      | cons x xs =>
        have hx : x ∈ Region.ready md ops listed := by rw [e]; simp
        have := Region.left_set (mem_ready.1 hx).1
        omega
    exact ⟨hr, last _ _ _ h hr⟩
  | succ fuel ih =>
    intro listed a w hf h
    refine ⟨fun hr => last _ _ _ h hr, fun i hi => ?_⟩
    have h0 := (mem_ready.1 hi).1
    refine wpOp_mono (fun a' w' h' => ih _ a' w' ?_ h') (step _ _ _ i h h0 hi)
    have := Region.left_set h0
    omega
/-- The edges go back: all have come up when none may. -/
theorem ready_all (hb : ∀ (j : Nat) (o : Oper), ops[j]? = some o → ∀ e ∈ o.after, Region.binds md e = true → e.on < j) {listed : Array Bool} (hs : listed.size = ops.size)
    (h : Region.ready md ops listed = []) : ∀ j, j < ops.size → listed.getD j false = true := by
  intro j
  induction j using Nat.strongRecOn with
  | ind j ih =>
    intro hj
    cases hl : listed.getD j true with
    | true => simpa [Array.getElem?_eq_getElem (show j < listed.size by omega)] using hl
    | false =>
      have : j ∈ Region.ready md ops listed := mem_ready.2 ⟨hl, ops[j], Array.getElem?_eq_getElem hj, fun e he hbn =>
        have hlt := hb j ops[j] (Array.getElem?_eq_getElem hj) e he hbn
        ih e.on hlt (Nat.lt_trans hlt hj)⟩
      rw [h] at this
      cases this
end
/-- What an operation must do: the invariant goes over. -/
def InvOp (P : Program) (md : Region.Mode) (Q : Exit → Act → World → Prop) (ops : Array Oper) (I : Array Bool → Act → World → Prop) (i : Nat) (o : Oper) : Prop :=
  ∀ (listed : Array Bool) (a : Act) (w : World), I listed a w → listed.getD i true = false → (∀ e ∈ o.after.toList, Region.binds md e = true → listed.getD e.on false = true) →
    ∀ K : Act → World → Prop, (∀ a w, I (listed.setIfInBounds i true) a w → K a w) → if Region.wanted o (yielded ops a.tmps) = true then Oper.wp P o a w K Q else K (a.put o.dst undef) w
def InvOps (P : Program) (md : Region.Mode) (Q : Exit → Act → World → Prop) (ops : Array Oper) (I : Array Bool → Act → World → Prop) : Nat → List Oper → Prop
  | _, [] => True
  | i, o :: r => InvOp P md Q ops I i o ∧ InvOps P md Q ops I (i + 1) r
theorem InvOps.get {P : Program} {md : Region.Mode} {Q : Exit → Act → World → Prop} {ops : Array Oper} {I : Array Bool → Act → World → Prop} : ∀ {l : List Oper} {k : Nat}, InvOps P md Q ops I k l → ∀ (j : Nat) (o : Oper), l[j]? = some o → InvOp P md Q ops I (k + j) o
  | [], _, _, j, o, h => by simp at h
  | x :: r, k, H, 0, o, h => by simp at h; subst h; exact H.1
  | x :: r, k, H, j + 1, o, h => by
    have := InvOps.get H.2 j o (by simpa using h)
    rwa [show k + (j + 1) = k + 1 + j by omega]
def Region.backward (md : Region.Mode) (l : List Oper) : Bool :=
  l.zipIdx.all fun x => x.1.after.toList.all fun e => !Region.binds md e || decide (e.on < x.2)
theorem wp_region_inv {P : Program} {Q : Exit → Act → World → Prop} {id : Nat} {a : Act} {w : World} {l : List Oper} (I : Array Bool → Act → World → Prop) (hm : P.follows .mixedOrders = true) (hb : Region.backward .any l = true)
    (hs : ∀ listed a w, I listed a w → listed.size = l.length)
    (start : I (Array.replicate l.length false) a w.drew)
    (steps : InvOps P .any Q l.toArray I 0 l)
    (last : ∀ listed a w, I listed a w → (∀ j, j < l.length → listed.getD j false = true) → Q .normal a w) : (Code.region id l.toArray true).wp P Q a w := by
  refine wp_region_any hm ?_
  refine wpAny_inv I ?_ ?_ _ _ _ _ ?_ start
  · intro listed a w i hI h0 hr
    obtain ⟨_, o, ho, hall⟩ := mem_ready.1 hr
    refine wpOp_step ho fun K hK => ?_
    have := InvOps.get steps i o (by simpa using ho)
    rw [Nat.zero_add] at this
    exact this listed a w hI h0 (fun e he hbn => hall e (by simpa using he) hbn) K hK
  · intro listed a w hI hr
    refine last _ _ _ hI (fun j hj => ready_all ?_ (by simpa using hs _ _ _ hI) hr j (by simpa using hj))
    intro j o ho e he hbn
    unfold Region.backward at hb
    rw [List.all_eq_true] at hb
    have hx := hb (o, j) (by
      rw [List.mem_zipIdx_iff_getElem?]
      simpa using ho)
    rw [List.all_eq_true] at hx
    have := hx e (by simpa using he)
    rw [hbn] at this
    simpa using this
  · have : ∀ n : Nat, Region.left (Array.replicate n false) = n := by
      intro n
      unfold Region.left
      simp
    rw [this]
    simp
end Go.Proofs.YtemeppfikpafbaaGreat

