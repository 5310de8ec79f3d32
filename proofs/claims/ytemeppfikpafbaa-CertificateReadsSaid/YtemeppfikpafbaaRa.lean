/- Texts K0, Cmps, Keys, laid together. -/
import Derived.Test.YtemeppfikpafbaaProg
import Derived.Below
import Derived.Deep.Draws
import Derived.Laws.AppendOwn
import Derived.WalkKit
import Derived.WalkLawsBesides
import Derived.WalkSpells
import Derived.Outline
import Derived.Lib.Hide
import Derived.Deep.QuietTactic
import Derived.BigQuiet
import Derived.Deep.RegionHeld3
import Derived.Deep.RegionLaw
import Derived.Deep.AppendLies
import Derived.RegionTactic
import Derived.ChangeAlike
import Derived.Laws.IdiomCopy
import Derived.StillTailTactics
/- Small facts on worlds and rows: shared by all texts of this seat. -/
namespace Go.Proofs.Ytemeppfikpafbaa
open Go.RowKit
theorem cell_lt {w : World} {b off : Nat} {v : Value} (h : w.cell? ⟨b, off, none⟩ = some v) : b < w.heap.size := by
  unfold World.cell? at h
  by_cases hb : b < w.heap.size
  · exact hb
  · simp [Array.getElem?_eq_none (Nat.le_of_not_lt hb)] at h
theorem below_cell {w w' : World} (hB : Below w.heap.size w w') {b off : Nat} {v : Value} (h : w.cell? ⟨b, off, none⟩ = some v) : w'.cell? ⟨b, off, none⟩ = some v := by
  rw [hB.cell (p := ⟨b, off, none⟩) (cell_lt h)]; exact h
theorem below_drewN (w : World) (n : Nat) (B : Nat) : Below B w (w.drewN n) := ⟨rfl, rfl, rfl, Nat.le_refl _, fun _ _ => rfl⟩
theorem owns_cell {w : World} {B : Nat} {e : TypeId} {n size : Nat} {v : Value} {xs : List Value} (h : w.ownsRow B e size v n xs) {j : Nat} {u : Value} (hj : xs[j]? = some u) :
    ∃ g cap, v = .slice (some ⟨g, 0, none⟩) n cap ∧ B ≤ g ∧ w.cell? ⟨g, j, none⟩ = some u := by
  obtain ⟨hl, h | ⟨g, cap, cur, hv, hB, hg, _, _, _, ht⟩⟩ := h
  · rw [h.2] at hl; simp at hl; subst hl; simp at hj
  · refine ⟨g, cap, hv, hB, ?_⟩
    simp only [World.cell?, hg]
    rw [← ht, List.getElem?_take] at hj
    split at hj
    · simpa using hj
    · cases hj
theorem owns_shape {w : World} {B : Nat} {e : TypeId} {n size : Nat} {v : Value} {xs : List Value} (h : w.ownsRow B e size v n xs) : ∃ a cap, v = .slice a n cap ∧ (∀ x, v.ownBlock = some x → B ≤ x ∧ x < w.heap.size) := by
  obtain ⟨hl, h | ⟨g, cap, cur, rfl, hB, hg, _, _, _, ht⟩⟩ := h
  · exact ⟨none, 0, by rw [h.1, h.2], fun x hx => by rw [h.1] at hx; simp [Value.ownBlock] at hx⟩
  · refine ⟨_, cap, rfl, fun x hx => ?_⟩
    have : g = x := by simpa [Value.ownBlock] using hx
    subst this
    refine ⟨hB, ?_⟩
    rcases Nat.lt_or_ge g w.heap.size with h | h
    · exact h
    · rw [Array.getElem?_eq_none h] at hg; cases hg
theorem owns_keep {w w' : World} {B : Nat} {e : TypeId} {n size : Nat} {v : Value} {xs : List Value} (h : w.ownsRow B e size v n xs) (hb : ∀ x, v.ownBlock = some x → w'.heap[x]? = w.heap[x]?) : w'.ownsRow B e size v n xs := by
  obtain ⟨hl, h | ⟨g, cap, cur, rfl, hB, hg, r⟩⟩ := h
  · exact ⟨hl, Or.inl h⟩
  · exact ⟨hl, Or.inr ⟨g, cap, cur, rfl, hB, by rw [hb g rfl]; exact hg, r⟩⟩
/-- The slice value v has n elements of 'size' cells each, which are xs. -/
def Row (S : Nat → Prop) (w : World) (size n : Nat) (v : Value) (xs : List Value) : Prop :=
  xs.length = n * size ∧ ∃ a cap, v = .slice a n cap ∧ n ≤ cap ∧ (n ≠ 0 → ∃ b off, a = some ⟨b, off, none⟩ ∧ S b ∧ ∀ j u, xs[j]? = some u → w.cell? ⟨b, off + j, none⟩ = some u)
theorem Row.shape {S : Nat → Prop} {w : World} {size n : Nat} {v : Value} {xs : List Value} (h : Row S w size n v xs) : ∃ a cap, v = .slice a n cap ∧ n ≤ cap := by
  obtain ⟨_, a, cap, rfl, hc, _⟩ := h; exact ⟨a, cap, rfl, hc⟩
theorem Row.at {S : Nat → Prop} {w : World} {size n len cap : Nat} {a : Option Addr} {xs : List Value} (h : Row S w size n (.slice a len cap) xs) (hn : n ≠ 0) :
    ∃ b off, a = some ⟨b, off, none⟩ ∧ len = n ∧ S b ∧ ∀ j u, xs[j]? = some u → w.cell? ⟨b, off + j, none⟩ = some u := by
  obtain ⟨_, a', cap', he, _, hr⟩ := h
  cases he
  obtain ⟨b, off, rfl, hS, hc⟩ := hr hn
  exact ⟨b, off, rfl, rfl, hS, hc⟩
theorem Row.nil (S : Nat → Prop) (w : World) (size : Nat) (a : Option Addr) (cap : Nat) : Row S w size 0 (.slice a 0 cap) [] :=
  ⟨by simp, a, cap, rfl, Nat.zero_le _, fun h => absurd rfl h⟩
theorem Row.mono2 {S S' : Nat → Prop} {w w' : World} {size n : Nat} {v : Value} {xs : List Value} (hs : 0 < size) (hw : ∀ b off u, S b → w.cell? ⟨b, off, none⟩ = some u → S' b ∧ w'.cell? ⟨b, off, none⟩ = some u) (h : Row S w size n v xs) : Row S' w' size n v xs := by
  obtain ⟨hl, a, cap, rfl, hc, hr⟩ := h
  refine ⟨hl, a, cap, rfl, hc, fun hn => ?_⟩
  obtain ⟨b, off, rfl, hS, hcell⟩ := hr hn
  have h0 : 0 < xs.length := by rw [hl]; exact Nat.mul_pos (by omega) hs
  exact ⟨b, off, rfl, (hw _ _ _ hS (hcell 0 xs[0] (List.getElem?_eq_getElem h0))).1, fun j u hj => (hw _ _ _ hS (hcell j u hj)).2⟩
theorem Row.mono {S S' : Nat → Prop} {w w' : World} {size n : Nat} {v : Value} {xs : List Value} (hS : ∀ b, S b → S' b) (hw : ∀ b off u, S b → w.cell? ⟨b, off, none⟩ = some u → w'.cell? ⟨b, off, none⟩ = some u) (h : Row S w size n v xs) : Row S' w' size n v xs := by
  obtain ⟨hl, a, cap, rfl, hc, hr⟩ := h
  refine ⟨hl, a, cap, rfl, hc, fun hn => ?_⟩
  obtain ⟨b, off, rfl, hb, hcell⟩ := hr hn
  exact ⟨b, off, rfl, hS b hb, fun j u hj => hw _ _ _ hb (hcell j u hj)⟩
theorem Row.below {S : Nat → Prop} {w w' : World} {size n : Nat} {v : Value} {xs : List Value} (hB : Below w.heap.size w w') (h : Row S w size n v xs) : Row S w' size n v xs :=
  h.mono (fun _ h => h) (fun _ _ _ _ h => below_cell hB h)
/-- A row that append has made. -/
theorem Row.of_owns {w : World} {B : Nat} {e : TypeId} {n size : Nat} {v : Value} {xs : List Value} (h : w.ownsRow B e size v n xs) : Row (fun x => B ≤ x) w size n v xs := by
  obtain ⟨hl, h | ⟨g, cap, cur, rfl, hB, hg, hnc, _, _, ht⟩⟩ := h
  · obtain ⟨rfl, rfl⟩ := h
    have : xs = [] := by simpa using hl
    subst this
    exact Row.nil _ _ _ _ _
  · refine ⟨hl, _, cap, rfl, hnc, fun _ => ⟨g, 0, rfl, hB, fun j u hj => ?_⟩⟩
    simp only [World.cell?, hg, Nat.zero_add]
    rw [← ht, List.getElem?_take] at hj
    split at hj
    · simpa using hj
    · cases hj
/-- What is left behind the first k elements. -/
theorem Row.drop {S : Nat → Prop} {w : World} {size n cap k : Nat} {b off : Nat} {xs : List Value} (h : Row S w size n (.slice (some ⟨b, off, none⟩) n cap) xs) (hk : k ≤ n) :
    Row S w size (n - k) (.slice (some ⟨b, off + k * size, none⟩) (n - k) (cap - k)) (xs.drop (k * size)) := by
  obtain ⟨hl, a, cap', he, hc, hr⟩ := h
  cases he
  refine ⟨by rw [List.length_drop, hl, Nat.sub_mul], _, _, rfl, by omega, fun hn => ?_⟩
  obtain ⟨b', off', he', hS, hcell⟩ := hr (by omega)
  cases he'
  refine ⟨b, off + k * size, rfl, hS, fun j u hj => ?_⟩
  rw [List.getElem?_drop] at hj
  rw [Nat.add_assoc]
  exact hcell _ _ hj
theorem thaw {w : World} {M : Nat} {arr : Array Value} {ty : TypeId} (h : w.heap[M]? = some (.cells arr ty)) (o : Nat) : w.frozen? ⟨M, o, none⟩ = false := by
  simp [World.frozen?, h]
theorem alloc_last (w : World) (o : Obj) : (w.alloc o).heap[w.heap.size]? = some o := by
  show (w.heap.push o)[w.heap.size]? = _
  simp
theorem alloc_at (w : World) (o : Obj) {n : Nat} (h : n = w.heap.size) : (w.alloc o).heap[n]? = some o := by subst h; exact alloc_last w o
theorem alloc_cell {w : World} (ob : Obj) {b o : Nat} {v : Value} (hc : w.cell? ⟨b, o, none⟩ = some v) : (w.alloc ob).cell? ⟨b, o, none⟩ = some v := by
  rw [World.cell?_of_block (w := w) (a := ⟨b, o, none⟩) (Below.heap_alloc w ob b (cell_lt hc))]; exact hc
theorem alloc_thaw {w : World} (ob : Obj) {b o : Nat} {v : Value} (hc : w.cell? ⟨b, o, none⟩ = some v) (hf : w.frozen? ⟨b, o, none⟩ = false) : (w.alloc ob).frozen? ⟨b, o, none⟩ = false := by
  rw [World.frozen?_of_block (w := w) (a := ⟨b, o, none⟩) (Below.heap_alloc w ob b (cell_lt hc))]; exact hf
theorem find_first {α : Type} (l : List α) (p : α → Bool) (k : Nat) (hk : k < l.length) (h : p l[k] = true) (hn : ∀ i (_ : i < k), p (l[i]'(by omega)) = false) : l.find? p = some l[k] := by
  induction l generalizing k with
  | nil => simp at hk
  | cons x xs ih =>
    cases k with
    | zero => simp only [List.getElem_cons_zero] at h; simp [List.find?, h]
    | succ k =>
      have h0 := hn 0 (by omega)
      simp only [List.getElem_cons_zero] at h0
      simp only [List.find?, h0, List.getElem_cons_succ]
      exact ih k (by simpa using hk) (by simpa using h) (fun i hi => by have := hn (i + 1) (by omega); simpa using this)
theorem Row.take {S : Nat → Prop} {w : World} {size n cap k : Nat} {a : Option Addr} {xs : List Value} (h : Row S w size n (.slice a n cap) xs) (hk : k ≤ n) : Row S w size k (.slice a k cap) (xs.take (k * size)) := by
  obtain ⟨hl, a', cap', he, hc, hr⟩ := h
  cases he
  refine ⟨by rw [List.length_take, hl]; exact Nat.min_eq_left (Nat.mul_le_mul_right _ hk), _, _, rfl, by omega, fun hn => ?_⟩
  obtain ⟨b, off, rfl, hS, hcell⟩ := hr (by omega)
  refine ⟨b, off, rfl, hS, fun j u hj => ?_⟩
  rw [List.getElem?_take] at hj
  split at hj
  · exact hcell _ _ hj
  · cases hj
theorem setCell_eq {w : World} {B x : Nat} {u v : Value} (h : w.cell? ⟨B, x, none⟩ = some v) : (w.setCell ⟨B, x, none⟩ u).cell? ⟨B, x, none⟩ = some u := World.cell?_setCell_same _ _ _ h
theorem setCell_neq {w : World} {B x y : Nat} {u : Value} (h : x ≠ y) : (w.setCell ⟨B, x, none⟩ u).cell? ⟨B, y, none⟩ = w.cell? ⟨B, y, none⟩ := World.cell?_setCell_other _ _ _ _ (by intro e; cases e; exact h rfl)
theorem grownBy_trans {a b c : World} {r : Option Nat} (h : a.grownBy b r) (k : b.grownBy c r) : a.grownBy c r :=
  ⟨k.os.trans h.os, k.tape.trans h.tape, k.output.trans h.output, Nat.le_trans h.size k.size, fun i hi hr => (k.block i (Nat.lt_of_lt_of_le hi h.size) hr).trans (h.block i hi hr)⟩
theorem grownBy_drew (w : World) (r : Option Nat) : w.grownBy w.drew r := ⟨rfl, rfl, rfl, Nat.le_refl _, fun _ _ _ => rfl⟩
theorem grownBy_drewN (w : World) (n : Nat) (r : Option Nat) : w.grownBy (w.drewN n) r := ⟨rfl, rfl, rfl, Nat.le_refl _, fun _ _ _ => rfl⟩
theorem grownBy_alloc2 (w : World) (o o' : Obj) (r : Option Nat) : w.grownBy ((w.alloc o).alloc o') r := grownBy_trans (World.grownBy_alloc w o r) (World.grownBy_alloc _ o' r)
/-- A world with more blocks. -/
def More (w w' : World) : Prop := w.grownBy w' none
theorem More.cell {w w' : World} (h : More w w') {b o : Nat} {v : Value} (hc : w.cell? ⟨b, o, none⟩ = some v) : w'.cell? ⟨b, o, none⟩ = some v := World.grownBy.cell h hc (by simp)
theorem More.block {w w' : World} (h : More w w') {b : Nat} (hb : b < w.heap.size) : w'.heap[b]? = w.heap[b]? := World.grownBy.block h b hb (by simp)
theorem More.frozen {w w' : World} (h : More w w') {b o : Nat} (hb : b < w.heap.size) (hf : w.frozen? ⟨b, o, none⟩ = false) : w'.frozen? ⟨b, o, none⟩ = false := (World.frozen?_of_block (w := w) (h.block hb)).trans hf
theorem More.below {w w' : World} (h : More w w') : Below w.heap.size w w' := ⟨h.os, h.tape, h.output, h.size, fun _k hk => h.block hk⟩
theorem grownBy_more {w0 w w' : World} {r : Option Nat} (h : w0.grownBy w r) (k : More w w') : w0.grownBy w' r :=
  grownBy_trans h ⟨k.os, k.tape, k.output, k.size, fun _i hi _ => k.block hi⟩
theorem more_drew (w : World) : More w w.drew := grownBy_drew w none
theorem more_trans {a b c : World} (h : More a b) (k : More b c) : More a c := grownBy_trans h k
theorem more_of {w w' : World} (h : Below w.heap.size w w') : More w w' := ⟨h.os, h.tape, h.output, h.size, fun k hk _ => h.block k hk⟩

theorem cell_of_blk {w : World} {b j : Nat} {arr : Array Value} {ty : TypeId} {u : Value} (h : w.heap[b]? = some (.cells arr ty)) (hj : arr[j]? = some u) : w.cell? ⟨b, j, none⟩ = some u := by
  simp only [World.cell?, h]
  simpa using hj
/-- More blocks, and the tape's place has not gone back. -/
def Lay (w w' : World) : Prop := More w w' ∧ w.drawn ≤ w'.drawn
theorem Lay.refl (w : World) : Lay w w := ⟨World.grownBy.refl _ _, Nat.le_refl _⟩
theorem Lay.trans {a b c : World} (h : Lay a b) (k : Lay b c) : Lay a c := ⟨more_trans h.1 k.1, Nat.le_trans h.2 k.2⟩
theorem Lay.alloc (w : World) (o : Obj) : Lay w (w.alloc o) := ⟨World.grownBy_alloc _ _ _, Nat.le_refl _⟩
theorem Lay.drew (w : World) : Lay w w.drew := ⟨more_drew w, Nat.le_succ _⟩
theorem Lay.drewN (w : World) (n : Nat) : Lay w (w.drewN n) := ⟨grownBy_drewN w n none, by simp [World.drewN]⟩
/-- A list's cells, k of each element. -/
def flatC {α : Type} (c : α → List Value) (l : List α) : List Value := l.flatMap c
theorem flatC_len {α : Type} {c : α → List Value} {k : Nat} (hc : ∀ x, (c x).length = k) (l : List α) : (flatC c l).length = l.length * k := by
  unfold flatC
  induction l with
  | nil => simp
  | cons x xs ih => rw [List.flatMap_cons, List.length_append, hc, ih, List.length_cons, Nat.add_mul]; omega
theorem flatC_get {α : Type} {c : α → List Value} {k : Nat} (hc : ∀ x, (c x).length = k) : ∀ (l : List α) (i : Nat) (hi : i < l.length) (j : Nat) (u : Value), (c l[i])[j]? = some u → (flatC c l)[i * k + j]? = some u
  | x :: xs, 0, _, j, u, h => by
    have hj : j < (c x).length := by
      rcases Nat.lt_or_ge j (c x).length with h' | h'
      · exact h'
      · simp only [List.getElem_cons_zero] at h; rw [List.getElem?_eq_none h'] at h; cases h
    unfold flatC
    rw [List.flatMap_cons, Nat.zero_mul, Nat.zero_add, List.getElem?_append_left hj]
    simpa using h
  | x :: xs, i + 1, hi, j, u, h => by
    have := flatC_get hc xs i (by simpa using hi) j u (by simpa using h)
    unfold flatC at this ⊢
    rw [List.flatMap_cons, List.getElem?_append_right (by rw [hc, Nat.add_mul]; omega), hc, show (i + 1) * k + j - k = i * k + j by rw [Nat.add_mul]; omega]
    exact this
  | [], _, hi, _, _, _ => by simp at hi
theorem flatC_push {α : Type} (c : α → List Value) (l : List α) (x : α) : flatC c (l ++ [x]) = flatC c l ++ c x := by unfold flatC; simp
theorem flatC_append {α : Type} (c : α → List Value) (l m : List α) : flatC c (l ++ m) = flatC c l ++ flatC c m := by unfold flatC; simp
theorem flatC_take {α : Type} {c : α → List Value} {k : Nat} (hc : ∀ x, (c x).length = k) (l : List α) (n : Nat) : flatC c (l.take n) = (flatC c l).take (n * k) := by
  induction l generalizing n with
  | nil => simp [flatC]
  | cons x xs ih =>
    cases n with
    | zero => simp [flatC]
    | succ n =>
      have := ih n
      unfold flatC at this ⊢
      rw [List.take_succ_cons, List.flatMap_cons, List.flatMap_cons, this, Nat.add_mul, Nat.one_mul, List.take_append, hc, Nat.add_sub_cancel, List.take_of_length_le (l := c x) (by rw [hc]; omega)]
theorem flatC_drop {α : Type} {c : α → List Value} {k : Nat} (hc : ∀ x, (c x).length = k) (l : List α) (n : Nat) : flatC c (l.drop n) = (flatC c l).drop (n * k) := by
  induction l generalizing n with
  | nil => simp [flatC]
  | cons x xs ih =>
    cases n with
    | zero => simp
    | succ n =>
      have := ih n
      unfold flatC at this ⊢
      rw [List.drop_succ_cons, List.flatMap_cons, this, Nat.add_mul, Nat.one_mul, List.drop_append, hc, Nat.add_sub_cancel, List.drop_of_length_le (l := c x) (by rw [hc]; omega), List.nil_append]
/-- A cell of a row of structs. -/
theorem Row.atC {α : Type} {c : α → List Value} {k : Nat} (hc : ∀ x, (c x).length = k) {S : Nat → Prop} {w : World} {l : List α} {a : Option Addr} {len cap : Nat} (h : Row S w k l.length (.slice a len cap) (flatC c l)) {i : Nat} (hi : i < l.length) :
    ∃ b off, a = some ⟨b, off, none⟩ ∧ S b ∧ ∀ j u, (c l[i])[j]? = some u → w.cell? ⟨b, off + i * k + j, none⟩ = some u := by
  obtain ⟨b, off, rfl, _, hS, hcell⟩ := h.at (by omega)
  exact ⟨b, off, rfl, hS, fun j u hj => by rw [Nat.add_assoc]; exact hcell _ _ (flatC_get hc l i hi j u hj)⟩
theorem Row.takeC {α : Type} {c : α → List Value} {k : Nat} (hc : ∀ x, (c x).length = k) {S : Nat → Prop} {w : World} {l : List α} {a : Option Addr} {cap n : Nat} (h : Row S w k l.length (.slice a l.length cap) (flatC c l)) (hn : n ≤ l.length) : Row S w k (l.take n).length (.slice a (l.take n).length cap) (flatC c (l.take n)) := by
  have hl : (l.take n).length = n := by rw [List.length_take]; omega
  rw [hl, flatC_take hc]
  exact h.take hn
/-- A block that is known whole, as a row. -/
theorem row_blkC {α : Type} {c : α → List Value} {k : Nat} (hc : ∀ x, (c x).length = k) {S : Nat → Prop} {w : World} {b cap : Nat} {arr : Array Value} {ty : TypeId} {l : List α} (h : w.heap[b]? = some (.cells arr ty)) (hx : arr.toList = flatC c l) (hcap : l.length ≤ cap) (hS : S b) : Row S w k l.length (.slice (some ⟨b, 0, none⟩) l.length cap) (flatC c l) := by
  refine ⟨flatC_len hc l, _, _, rfl, hcap, fun _ => ⟨b, 0, rfl, hS, fun j u hj => ?_⟩⟩
  rw [← hx] at hj
  rw [Nat.zero_add]
  simpa [World.cell?, h] using hj
/-- Neighbouring cells are written. -/
def setC (w : World) (B o : Nat) : List Value → World
  | [] => w
  | a :: r => setC (w.setCell ⟨B, o, none⟩ a) B (o + 1) r
theorem setC_frozen (w : World) (B o : Nat) (a : Addr) (cs : List Value) : (setC w B o cs).frozen? a = w.frozen? a := by
  induction cs generalizing w o with
  | nil => rfl
  | cons c r ih => rw [setC, ih, World.frozen?_setCell]
theorem setC_far {w : World} {B o q : Nat} {cs : List Value} (h : q < o ∨ o + cs.length ≤ q) : (setC w B o cs).cell? ⟨B, q, none⟩ = w.cell? ⟨B, q, none⟩ := by
  induction cs generalizing w o with
  | nil => rfl
  | cons c r ih =>
    simp only [List.length_cons] at h
    rw [setC, ih (by omega), setCell_neq (by omega)]
theorem setC_at : ∀ (cs : List Value) {w : World} {B o j : Nat} {u v : Value}, cs[j]? = some u → w.cell? ⟨B, o + j, none⟩ = some v → (setC w B o cs).cell? ⟨B, o + j, none⟩ = some u
  | c :: r, w, B, o, 0, u, v, hu, hv => by
    rw [setC, setC_far (by omega)]
    simp at hu; subst hu
    exact setCell_eq hv
  | c :: r, w, B, o, j + 1, u, v, hu, hv => by
    rw [setC, show o + (j + 1) = o + 1 + j by omega]
    refine setC_at r (v := v) (by simpa using hu) ?_
    rw [setCell_neq (by omega), show o + 1 + j = o + (j + 1) by omega]
    exact hv
  | [], _, _, _, _, _, _, hu, _ => by simp at hu
theorem setC_grown (w : World) (B o : Nat) (cs : List Value) : w.grownBy (setC w B o cs) (some B) := by
  induction cs generalizing w o with
  | nil => exact World.grownBy.refl _ _
  | cons c r ih =>
    rw [setC]
    refine grownBy_trans (b := w.setCell ⟨B, o, none⟩ c) ⟨rfl, rfl, rfl, by simp [World.setCell], fun k _ hne => ?_⟩ (ih _ _)
    have hk : k ≠ B := fun e => hne (by rw [e])
    exact Below.heap_setCell _ _ _ _ hk
/-- The elements d lie in block B from off on, and may be written. -/
def HoldC {α : Type} [Inhabited α] (c : α → List Value) (k : Nat) (w : World) (B off : Nat) (d : Array α) : Prop :=
  ∀ i, i < d.size → ∀ j u, (c d[i]!)[j]? = some u → w.cell? ⟨B, off + i * k + j, none⟩ = some u ∧ w.frozen? ⟨B, off + i * k + j, none⟩ = false
section
variable {α : Type} [Inhabited α] {c : α → List Value} {k : Nat}
theorem HoldC.keep {w w' : World} {B off : Nat} {d : Array α} (h : HoldC c k w B off d) (hw : w'.heap[B]? = w.heap[B]?) : HoldC c k w' B off d := fun i hi j u hj => by
  obtain ⟨h1, h2⟩ := h i hi j u hj
  exact ⟨(World.cell?_of_block (w := w) hw).trans h1, (World.frozen?_of_block (w := w) hw).trans h2⟩
theorem HoldC.set {w : World} {B off : Nat} {d : Array α} (hc : ∀ x, (c x).length = k) (h : HoldC c k w B off d) {i : Nat} (hi : i < d.size) (x : α) : HoldC c k (setC w B (off + i * k) (c x)) B off (d.setIfInBounds i x) := by
  intro j hj q u hq
  have hj' : j < d.size := by simpa using hj
  have hqk : ∀ y : α, (c y)[q]? = some u → q < k := fun y hy => by
    rcases Nat.lt_or_ge q (c y).length with h' | h'
    · rw [hc] at h'; exact h'
    · rw [List.getElem?_eq_none h'] at hy; cases hy
  rw [setC_frozen]
  by_cases e : j = i
  · subst e
    have hx : (d.setIfInBounds j x)[j]! = x := by simp [hj']
    rw [hx] at hq
    have hqk' := hqk _ hq
    obtain ⟨h1, h2⟩ := h j hj' q ((c d[j]!)[q]'(by rw [hc]; exact hqk')) (List.getElem?_eq_getElem _)
    exact ⟨setC_at _ hq h1, h2⟩
  · have hx : (d.setIfInBounds i x)[j]! = d[j]! := by simp [hj', Ne.symm e]
    rw [hx] at hq
    have hqk' := hqk _ hq
    obtain ⟨h1, h2⟩ := h j hj' q u hq
    refine ⟨?_, h2⟩
    rw [setC_far]
    · exact h1
    · rw [hc]
      rcases Nat.lt_or_gt_of_ne e with hlt | hlt
      · left
        have := Nat.mul_le_mul_right k (show j + 1 ≤ i by omega)
        rw [Nat.add_mul] at this; omega
      · right
        have := Nat.mul_le_mul_right k (show i + 1 ≤ j by omega)
        rw [Nat.add_mul] at this; omega
end
end Go.Proofs.Ytemeppfikpafbaa

/- cmp.Compare at kinds (122, 177), ints (123, 178) and statuses (141, 185); cmp.Or (68). -/
namespace Go.Proofs.Ytemeppfikpafbaa
open Go.RowKit
/-- What cmp.Compare answers. -/
def cmpI (x y : Int) : Int := if x < y then -1 else if y < x then 1 else 0
theorem cmpI_neg {x y : Int} : cmpI x y < 0 ↔ x < y := by unfold cmpI; split <;> (try split) <;> simp_all <;> omega
theorem cmpI_zero {x y : Int} : cmpI x y = 0 ↔ x = y := by unfold cmpI; split <;> (try split) <;> simp_all <;> omega
theorem cmpI_bounds (x y : Int) : -1 ≤ cmpI x y ∧ cmpI x y ≤ 1 := by unfold cmpI; split <;> (try split) <;> simp
theorem cmpI_swap (x y : Int) : cmpI y x = - cmpI x y := by unfold cmpI; split <;> (try split) <;> (try split) <;> omega

theorem nanK_any (x : Int) (w : World) : Calls Try.prog 177 #[.int .u8 x] w fun e w' => e = .returned (.bool false) ∧ w' = w := by
  go_enter Try.func177, Try.ntmps177
  go_wp2_with fail
  go_ret
  simp
theorem cmpK_any (x y : Int) (w : World) : Calls Try.prog 122 #[.int .u8 x, .int .u8 y] w fun e w' => e = .returned (.int .i64 (cmpI x y)) ∧ w' = w := by
  go_enter Try.func122, Try.ntmps122
  by_cases h1 : x < y
  · have t1 : decide (x < y) = true := by simp [h1]
    have hc : cmpI x y = -1 := by simp [cmpI, h1]
    have HC := Lib.hid hc; clear hc h1
    go_wp2_with fail
    refine (nanK_any _ _).mono ?_
    rintro e w1 ⟨rfl, rfl⟩
    go_wp2_with fail
    refine (nanK_any _ _).mono ?_
    rintro e w1 ⟨rfl, rfl⟩
    go_wp2_with fail
    go_ret
    rw [HC.out]
    exact ⟨rfl, rfl⟩
  · have t1 : decide (x < y) = false := by simp [h1]
    by_cases h2 : y < x
    · have t2 : decide (y < x) = true := by simp [h2]
      have hc : cmpI x y = 1 := by simp [cmpI, h1, h2]
      have HC := Lib.hid hc; clear hc h1 h2
      go_wp2_with fail
      refine (nanK_any _ _).mono ?_
      rintro e w1 ⟨rfl, rfl⟩
      go_wp2_with fail
      refine (nanK_any _ _).mono ?_
      rintro e w1 ⟨rfl, rfl⟩
      go_wp2_with fail
      go_ret
      rw [HC.out]
      exact ⟨rfl, rfl⟩
    · have t2 : decide (y < x) = false := by simp [h2]
      have hc : cmpI x y = 0 := by simp [cmpI, h1, h2]
      have HC := Lib.hid hc; clear hc h1 h2
      go_wp2_with fail
      refine (nanK_any _ _).mono ?_
      rintro e w1 ⟨rfl, rfl⟩
      go_wp2_with fail
      refine (nanK_any _ _).mono ?_
      rintro e w1 ⟨rfl, rfl⟩
      go_wp2_with fail
      go_ret
      rw [HC.out]
      exact ⟨rfl, rfl⟩

theorem nanN_any (x : Int) (w : World) : Calls Try.prog 178 #[.int .i64 x] w fun e w' => e = .returned (.bool false) ∧ w' = w := by
  go_enter Try.func178, Try.ntmps178
  go_wp2_with fail
  go_ret
  simp
theorem cmpN_any (x y : Int) (w : World) : Calls Try.prog 123 #[.int .i64 x, .int .i64 y] w fun e w' => e = .returned (.int .i64 (cmpI x y)) ∧ w' = w := by
  go_enter Try.func123, Try.ntmps123
  by_cases h1 : x < y
  · have t1 : decide (x < y) = true := by simp [h1]
    have hc : cmpI x y = -1 := by simp [cmpI, h1]
    have HC := Lib.hid hc; clear hc h1
    go_wp2_with fail
    refine (nanN_any _ _).mono ?_
    rintro e w1 ⟨rfl, rfl⟩
    go_wp2_with fail
    refine (nanN_any _ _).mono ?_
    rintro e w1 ⟨rfl, rfl⟩
    go_wp2_with fail
    go_ret
    rw [HC.out]
    exact ⟨rfl, rfl⟩
  · have t1 : decide (x < y) = false := by simp [h1]
    by_cases h2 : y < x
    · have t2 : decide (y < x) = true := by simp [h2]
      have hc : cmpI x y = 1 := by simp [cmpI, h1, h2]
      have HC := Lib.hid hc; clear hc h1 h2
      go_wp2_with fail
      refine (nanN_any _ _).mono ?_
      rintro e w1 ⟨rfl, rfl⟩
      go_wp2_with fail
      refine (nanN_any _ _).mono ?_
      rintro e w1 ⟨rfl, rfl⟩
      go_wp2_with fail
      go_ret
      rw [HC.out]
      exact ⟨rfl, rfl⟩
    · have t2 : decide (y < x) = false := by simp [h2]
      have hc : cmpI x y = 0 := by simp [cmpI, h1, h2]
      have HC := Lib.hid hc; clear hc h1 h2
      go_wp2_with fail
      refine (nanN_any _ _).mono ?_
      rintro e w1 ⟨rfl, rfl⟩
      go_wp2_with fail
      refine (nanN_any _ _).mono ?_
      rintro e w1 ⟨rfl, rfl⟩
      go_wp2_with fail
      go_ret
      rw [HC.out]
      exact ⟨rfl, rfl⟩

theorem nanS_any (x : Int) (w : World) : Calls Try.prog 185 #[.int .u8 x] w fun e w' => e = .returned (.bool false) ∧ w' = w := by
  go_enter Try.func185, Try.ntmps185
  go_wp2_with fail
  go_ret
  simp
theorem cmpS_any (x y : Int) (w : World) : Calls Try.prog 141 #[.int .u8 x, .int .u8 y] w fun e w' => e = .returned (.int .i64 (cmpI x y)) ∧ w' = w := by
  go_enter Try.func141, Try.ntmps141
  by_cases h1 : x < y
  · have t1 : decide (x < y) = true := by simp [h1]
    have hc : cmpI x y = -1 := by simp [cmpI, h1]
    have HC := Lib.hid hc; clear hc h1
    go_wp2_with fail
    refine (nanS_any _ _).mono ?_
    rintro e w1 ⟨rfl, rfl⟩
    go_wp2_with fail
    refine (nanS_any _ _).mono ?_
    rintro e w1 ⟨rfl, rfl⟩
    go_wp2_with fail
    go_ret
    rw [HC.out]
    exact ⟨rfl, rfl⟩
  · have t1 : decide (x < y) = false := by simp [h1]
    by_cases h2 : y < x
    · have t2 : decide (y < x) = true := by simp [h2]
      have hc : cmpI x y = 1 := by simp [cmpI, h1, h2]
      have HC := Lib.hid hc; clear hc h1 h2
      go_wp2_with fail
      refine (nanS_any _ _).mono ?_
      rintro e w1 ⟨rfl, rfl⟩
      go_wp2_with fail
      refine (nanS_any _ _).mono ?_
      rintro e w1 ⟨rfl, rfl⟩
      go_wp2_with fail
      go_ret
      rw [HC.out]
      exact ⟨rfl, rfl⟩
    · have t2 : decide (y < x) = false := by simp [h2]
      have hc : cmpI x y = 0 := by simp [cmpI, h1, h2]
      have HC := Lib.hid hc; clear hc h1 h2
      go_wp2_with fail
      refine (nanS_any _ _).mono ?_
      rintro e w1 ⟨rfl, rfl⟩
      go_wp2_with fail
      refine (nanS_any _ _).mono ?_
      rintro e w1 ⟨rfl, rfl⟩
      go_wp2_with fail
      go_ret
      rw [HC.out]
      exact ⟨rfl, rfl⟩

/-- The first that is not 0. -/
def orI : List Int → Int
  | [] => 0
  | x :: r => if x = 0 then orI r else x
def iV (l : List Int) : List Value := l.map fun x => .int .i64 x
theorem iV_get (l : List Int) (j : Nat) (h : j < l.length) : (iV l)[j]? = some (.int .i64 l[j]) := by simp [iV, h]
set_option maxRecDepth 100000 in
theorem or_any (S : Nat → Prop) (l : List Int) (v : Value) (w : World) (hl : l.length ≤ 1000000) (h : Row S w 1 l.length v (iV l)) :
    Calls Try.prog 68 #[v] w fun e w' => e = .returned (.int .i64 (orI l)) ∧ w' = w := by
  obtain ⟨a, cap, rfl, _⟩ := h.shape
  have HR := Lib.hid h; clear h
  go_enter Try.func68, Try.ntmps68
  go_wp2_with fail
  go_loop [8] (fun i => ∃ j : Nat, j ≤ l.length ∧ i = .int .i64 j ∧ Hid (orI (l.drop j) = orI l)) (fun i => l.length - (intOf i).toNat)
  case atStart => exact ⟨0, Nat.zero_le _, rfl, Lib.hid rfl⟩
  case round =>
    obtain ⟨j, hj, rfl, HE⟩ := hrel
    by_cases hlt : j < l.length
    · obtain ⟨b, off, rfl, _, _, hc⟩ := HR.out.at (by omega)
      have g0 := hc _ _ (iV_get l j hlt)
      clear hc
      have HDR := Lib.hid (List.drop_eq_getElem_cons hlt)
      generalize l[j] = x at *
      by_cases hx : x = 0
      · have t1 : (x != 0) = false := by simp [hx]
        have HE1 := Lib.hid (show orI (l.drop (j + 1)) = orI l by rw [← HE.out, HDR.out, orI, if_pos hx])
        clear hx
        go_wp2_with fail
        go_round
        case rel => exact ⟨j + 1, by omega, by go_num, HE1⟩
        case measure => simp [intOf]; omega
      · have t1 : (x != 0) = true := by simpa using hx
        have HE1 := Lib.hid (show x = orI l by rw [← HE.out, HDR.out, orI, if_neg hx])
        clear hx
        go_wp2_with fail
        go_ret
        exact ⟨by rw [← HE1.out]; rfl, rfl⟩
    · have HE1 := Lib.hid (show 0 = orI l by rw [← HE.out, List.drop_of_length_le (by omega)]; rfl)
      go_wp2_with fail
      go_ret
      exact ⟨by rw [← HE1.out]; rfl, rfl⟩
end Go.Proofs.Ytemeppfikpafbaa

/- Keys and messages: choice.compare (79), Less (32), rank.compareKeys (69). -/
namespace Go.Proofs.Ytemeppfikpafbaa
open Go.RowKit
structure K4 where
  kind : Int
  a : Int
  b : Int
  n : Int
deriving DecidableEq
instance : Inhabited K4 := ⟨⟨0, 0, 0, 0⟩⟩
def kC (x : K4) : List Value := [.int .u8 x.kind, .int .i64 x.a, .int .i64 x.b, .int .i64 x.n]
def kA (x : K4) : Value := .agg #[.int .u8 x.kind, .int .i64 x.a, .int .i64 x.b, .int .i64 x.n]
theorem kC_len (x : K4) : (kC x).length = 4 := rfl
def cmpK4 (x y : K4) : Int := orI [cmpI x.kind y.kind, cmpI x.a y.a, cmpI x.b y.b, cmpI x.n y.n]
/-- Two boxes behind one another. -/
theorem boxed2 (w : World) (o1 o2 : Obj) : ((w.alloc o1).alloc o2).heap[w.heap.size]? = some o1 ∧ ((w.alloc o1).alloc o2).heap[w.heap.size + 1]? = some o2 ∧ Lay w ((w.alloc o1).alloc o2) :=
  ⟨by rw [Below.heap_alloc _ _ _ (by simp)]; exact alloc_last _ _, alloc_at _ _ (by simp), (Lay.alloc _ _).trans (Lay.alloc _ _)⟩
theorem row_lit {S : Nat → Prop} {w : World} {l : List Int} {ty : TypeId} (hS : S w.heap.size) {arr : Array Value} (ha : arr.toList = iV l) : Row S (w.alloc (.cells arr ty)) 1 l.length (.slice (some ⟨w.heap.size, 0, none⟩) l.length l.length) (iV l) := by
  refine ⟨by simp [iV], _, _, rfl, Nat.le_refl _, fun _ => ⟨w.heap.size, 0, rfl, hS, fun j u hj => ?_⟩⟩
  rw [← ha] at hj
  have := alloc_last w (.cells arr ty)
  rw [Nat.zero_add]
  simp only [World.cell?, this]
  simpa using hj
set_option maxRecDepth 100000 in
theorem compareK_any (x y : K4) (w : World) : Calls Try.prog 79 #[kA x, kA y] w fun e w' => e = .returned (.int .i64 (cmpK4 x y)) ∧ Lay w w' := by
  unfold kA
  have H := Lib.hid (show orI [cmpI x.kind y.kind, cmpI x.a y.a, cmpI x.b y.b, cmpI x.n y.n] = cmpK4 x y from rfl)
  go_enter Try.func79, Try.ntmps79
  go_wp2_with fail
  obtain ⟨h1, h2, hm⟩ := boxed2 w (.cells #[.int .u8 x.kind, .int .i64 x.a, .int .i64 x.b, .int .i64 x.n] 48) (.cells #[.int .u8 y.kind, .int .i64 y.a, .int .i64 y.b, .int .i64 y.n] 48)
  generalize (w.alloc (.cells #[.int .u8 x.kind, .int .i64 x.a, .int .i64 x.b, .int .i64 x.n] 48)).alloc (.cells #[.int .u8 y.kind, .int .i64 y.a, .int .i64 y.b, .int .i64 y.n] 48) = w2 at *
  have a0 : w2.cell? ⟨w.heap.size, 0, none⟩ = some (.int .u8 x.kind) := by simp [World.cell?, h1]
  have a1 : w2.cell? ⟨w.heap.size, 1, none⟩ = some (.int .i64 x.a) := by simp [World.cell?, h1]
  have a2 : w2.cell? ⟨w.heap.size, 2, none⟩ = some (.int .i64 x.b) := by simp [World.cell?, h1]
  have a3 : w2.cell? ⟨w.heap.size, 3, none⟩ = some (.int .i64 x.n) := by simp [World.cell?, h1]
  have b0 : w2.cell? ⟨w.heap.size + 1, 0, none⟩ = some (.int .u8 y.kind) := by simp [World.cell?, h2]
  have b1 : w2.cell? ⟨w.heap.size + 1, 1, none⟩ = some (.int .i64 y.a) := by simp [World.cell?, h2]
  have b2 : w2.cell? ⟨w.heap.size + 1, 2, none⟩ = some (.int .i64 y.b) := by simp [World.cell?, h2]
  have b3 : w2.cell? ⟨w.heap.size + 1, 3, none⟩ = some (.int .i64 y.n) := by simp [World.cell?, h2]
  have HM := Lib.hid hm
  clear h1 h2 hm
  have ha := cell_lt a0
  have hb := cell_lt b0
  refine wp_region_still_tail 20 (by kernel_rfl) (by kernel_rfl) ?_
  simp only [List.take_succ_cons, List.take_zero, List.drop_succ_cons, List.drop_zero]
  repeat still_step
  still_call (cmpK_any _ _ _)
  repeat still_step
  still_call (cmpN_any _ _ _)
  repeat still_step
  still_call (cmpN_any _ _ _)
  repeat still_step
  still_call (cmpN_any _ _ _)
  refine wpStill_nil ?_
  change wpList _ _ _ _ _ w2.drew
  generalize hw3 : w2.drew = w3
  have HM3 := Lib.hid (show Lay w w3 by rw [← hw3]; exact HM.out.trans (Lay.drew _))
  clear a0 a1 a2 a3 b0 b1 b2 b3 ha hb hw3
  go_wp2_with fail
  refine (or_any (fun _ => True) [cmpI x.kind y.kind, cmpI x.a y.a, cmpI x.b y.b, cmpI x.n y.n] _ _ (show 4 ≤ 1000000 by decide) (row_lit trivial rfl)).mono ?_
  rw [H.out]
  rintro e w' ⟨rfl, hw'⟩
  rw [hw']
  clear hw' w'
  go_wp2_with fail
  go_ret
  exact ⟨rfl, HM3.out.trans (Lay.alloc _ _)⟩
set_option maxRecDepth 100000 in
theorem lessK_any (x y : K4) (w : World) : Calls Try.prog 32 #[kA x, kA y] w fun e w' => e = .returned (.bool (decide (cmpK4 x y < 0))) ∧ Lay w w' := by
  have HC := Lib.hid (fun w => compareK_any x y w)
  unfold kA at *
  generalize hz : cmpK4 x y = z at *
  clear hz
  go_enter Try.func32, Try.ntmps32
  go_wp2_with fail
  obtain ⟨h1, h2, hm⟩ := boxed2 w (.cells #[.int .u8 x.kind, .int .i64 x.a, .int .i64 x.b, .int .i64 x.n] 48) (.cells #[.int .u8 y.kind, .int .i64 y.a, .int .i64 y.b, .int .i64 y.n] 48)
  generalize (w.alloc (.cells #[.int .u8 x.kind, .int .i64 x.a, .int .i64 x.b, .int .i64 x.n] 48)).alloc (.cells #[.int .u8 y.kind, .int .i64 y.a, .int .i64 y.b, .int .i64 y.n] 48) = w2 at *
  have a0 : w2.cell? ⟨w.heap.size, 0, none⟩ = some (.int .u8 x.kind) := by simp [World.cell?, h1]
  have a1 : w2.cell? ⟨w.heap.size, 1, none⟩ = some (.int .i64 x.a) := by simp [World.cell?, h1]
  have a2 : w2.cell? ⟨w.heap.size, 2, none⟩ = some (.int .i64 x.b) := by simp [World.cell?, h1]
  have a3 : w2.cell? ⟨w.heap.size, 3, none⟩ = some (.int .i64 x.n) := by simp [World.cell?, h1]
  have b0 : w2.cell? ⟨w.heap.size + 1, 0, none⟩ = some (.int .u8 y.kind) := by simp [World.cell?, h2]
  have b1 : w2.cell? ⟨w.heap.size + 1, 1, none⟩ = some (.int .i64 y.a) := by simp [World.cell?, h2]
  have b2 : w2.cell? ⟨w.heap.size + 1, 2, none⟩ = some (.int .i64 y.b) := by simp [World.cell?, h2]
  have b3 : w2.cell? ⟨w.heap.size + 1, 3, none⟩ = some (.int .i64 y.n) := by simp [World.cell?, h2]
  have HM := Lib.hid hm
  clear h1 h2 hm
  go_wp2_with fail
  refine (HC.out w2).mono ?_
  rintro e w3 ⟨rfl, hm3⟩
  have HM3 := Lib.hid (HM.out.trans hm3)
  clear a0 a1 a2 a3 b0 b1 b2 b3 hm3
  go_wp2_with fail
  go_ret
  exact ⟨rfl, HM3.out⟩
/-- What rank.compareKeys answers. -/
def sgnK (x y : K4) : Int := if cmpK4 x y < 0 then -1 else if cmpK4 y x < 0 then 1 else 0
set_option maxRecDepth 100000 in
theorem compareKeys_any (x y : K4) (w : World) : Calls Try.prog 69 #[kA x, kA y] w fun e w' => e = .returned (.int .i64 (sgnK x y)) ∧ Lay w w' := by
  have HC := Lib.hid (fun w => lessK_any x y w)
  have HD := Lib.hid (fun w => lessK_any y x w)
  unfold kA at *
  by_cases hz : cmpK4 x y < 0
  · have HS := Lib.hid (show sgnK x y = -1 by unfold sgnK; rw [if_pos hz])
    rw [decide_eq_true hz] at HC
    clear hz HD
    go_enter Try.func69, Try.ntmps69
    go_wp2_with fail
    obtain ⟨h1, h2, hm⟩ := boxed2 w (.cells #[.int .u8 x.kind, .int .i64 x.a, .int .i64 x.b, .int .i64 x.n] 48) (.cells #[.int .u8 y.kind, .int .i64 y.a, .int .i64 y.b, .int .i64 y.n] 48)
    generalize (w.alloc (.cells #[.int .u8 x.kind, .int .i64 x.a, .int .i64 x.b, .int .i64 x.n] 48)).alloc (.cells #[.int .u8 y.kind, .int .i64 y.a, .int .i64 y.b, .int .i64 y.n] 48) = w2 at *
    have a0 : w2.cell? ⟨w.heap.size, 0, none⟩ = some (.int .u8 x.kind) := by simp [World.cell?, h1]
    have a1 : w2.cell? ⟨w.heap.size, 1, none⟩ = some (.int .i64 x.a) := by simp [World.cell?, h1]
    have a2 : w2.cell? ⟨w.heap.size, 2, none⟩ = some (.int .i64 x.b) := by simp [World.cell?, h1]
    have a3 : w2.cell? ⟨w.heap.size, 3, none⟩ = some (.int .i64 x.n) := by simp [World.cell?, h1]
    have b0 : w2.cell? ⟨w.heap.size + 1, 0, none⟩ = some (.int .u8 y.kind) := by simp [World.cell?, h2]
    have b1 : w2.cell? ⟨w.heap.size + 1, 1, none⟩ = some (.int .i64 y.a) := by simp [World.cell?, h2]
    have b2 : w2.cell? ⟨w.heap.size + 1, 2, none⟩ = some (.int .i64 y.b) := by simp [World.cell?, h2]
    have b3 : w2.cell? ⟨w.heap.size + 1, 3, none⟩ = some (.int .i64 y.n) := by simp [World.cell?, h2]
    have HM := Lib.hid hm
    clear h1 h2 hm
    go_wp2_with fail
    refine (HC.out w2).mono ?_
    rintro e w3 ⟨rfl, hm3⟩
    have HM3 := Lib.hid (HM.out.trans hm3)
    clear a0 a1 a2 a3 b0 b1 b2 b3 hm3
    go_wp2_with fail
    go_ret
    exact ⟨by rw [HS.out]; rfl, HM3.out⟩
  · obtain ⟨z, hzz⟩ : ∃ z, decide (cmpK4 y x < 0) = z := ⟨_, rfl⟩
    have HS := Lib.hid (show sgnK x y = if z then 1 else 0 by unfold sgnK; rw [if_neg hz, ← hzz]; simp)
    rw [decide_eq_false hz] at HC
    rw [hzz] at HD
    clear hz hzz
    go_enter Try.func69, Try.ntmps69
    go_wp2_with fail
    obtain ⟨h1, h2, hm⟩ := boxed2 w (.cells #[.int .u8 x.kind, .int .i64 x.a, .int .i64 x.b, .int .i64 x.n] 48) (.cells #[.int .u8 y.kind, .int .i64 y.a, .int .i64 y.b, .int .i64 y.n] 48)
    generalize (w.alloc (.cells #[.int .u8 x.kind, .int .i64 x.a, .int .i64 x.b, .int .i64 x.n] 48)).alloc (.cells #[.int .u8 y.kind, .int .i64 y.a, .int .i64 y.b, .int .i64 y.n] 48) = w2 at *
    have a0 : w2.cell? ⟨w.heap.size, 0, none⟩ = some (.int .u8 x.kind) := by simp [World.cell?, h1]
    have a1 : w2.cell? ⟨w.heap.size, 1, none⟩ = some (.int .i64 x.a) := by simp [World.cell?, h1]
    have a2 : w2.cell? ⟨w.heap.size, 2, none⟩ = some (.int .i64 x.b) := by simp [World.cell?, h1]
    have a3 : w2.cell? ⟨w.heap.size, 3, none⟩ = some (.int .i64 x.n) := by simp [World.cell?, h1]
    have b0 : w2.cell? ⟨w.heap.size + 1, 0, none⟩ = some (.int .u8 y.kind) := by simp [World.cell?, h2]
    have b1 : w2.cell? ⟨w.heap.size + 1, 1, none⟩ = some (.int .i64 y.a) := by simp [World.cell?, h2]
    have b2 : w2.cell? ⟨w.heap.size + 1, 2, none⟩ = some (.int .i64 y.b) := by simp [World.cell?, h2]
    have b3 : w2.cell? ⟨w.heap.size + 1, 3, none⟩ = some (.int .i64 y.n) := by simp [World.cell?, h2]
    have HM := Lib.hid hm
    clear h1 h2 hm
    go_wp2_with fail
    refine (HC.out w2).mono ?_
    rintro e w3 ⟨rfl, hm3⟩
    have HM3 := Lib.hid (HM.out.trans hm3)
    have a0 := hm3.1.cell a0; have a1 := hm3.1.cell a1; have a2 := hm3.1.cell a2; have a3 := hm3.1.cell a3
    have b0 := hm3.1.cell b0; have b1 := hm3.1.cell b1; have b2 := hm3.1.cell b2; have b3 := hm3.1.cell b3
    clear hm3
    go_wp2_with fail
    refine (HD.out w3).mono ?_
    rintro e w4 ⟨rfl, hm4⟩
    have HM4 := Lib.hid (HM3.out.trans hm4)
    clear a0 a1 a2 a3 b0 b1 b2 b3 hm4
    cases z with
    | true =>
      go_wp2_with fail
      go_ret
      exact ⟨by rw [HS.out]; rfl, HM4.out⟩
    | false =>
      go_wp2_with fail
      go_ret
      exact ⟨by rw [HS.out]; rfl, HM4.out⟩
end Go.Proofs.Ytemeppfikpafbaa

