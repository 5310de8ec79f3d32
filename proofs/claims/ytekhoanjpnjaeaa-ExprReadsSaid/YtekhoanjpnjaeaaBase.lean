/- Small facts on worlds, rows of pairs and types: shared by all texts of this seat. -/
import Derived.Test.YtekhoanjpnjaeaaProg
import Derived.Test.YtekhoanjpnjaeaaRow
import Derived.Test.YtekhoanjpnjaeaaArith
import Derived.WalkKit
import Derived.WalkLawsBesides
import Derived.WalkSpells
import Derived.Outline
import Derived.Lib.Hide
import Derived.Deep.QuietTactic
import Derived.BigQuiet
import Derived.Deep.RegionHeld3
import Derived.Deep.RegionLaw
import Derived.Deep.AppendLies
namespace Go.Proofs.Ytekhoanjpnjaeaa
open Go.RowKit
theorem thaw {w : World} {M : Nat} {arr : Array Value} {ty : TypeId} (h : w.heap[M]? = some (.cells arr ty)) (o : Nat) : w.frozen? ⟨M, o, none⟩ = false := by
  simp [World.frozen?, h]
theorem alloc_last (w : World) (o : Obj) : (w.alloc o).heap[w.heap.size]? = some o := by
  show (w.heap.push o)[w.heap.size]? = _
  simp
theorem alloc_at (w : World) (o : Obj) {n : Nat} (h : n = w.heap.size) : (w.alloc o).heap[n]? = some o := by subst h; exact alloc_last w o
theorem alloc_cell {w : World} (ob : Obj) {b o : Nat} {v : Value} (hc : w.cell? ⟨b, o, none⟩ = some v) : (w.alloc ob).cell? ⟨b, o, none⟩ = some v := by
  rw [World.cell?_of_block (w := w) (a := ⟨b, o, none⟩) (Below.heap_alloc w ob b (cell_lt hc))]; exact hc
theorem alloc_thaw {w : World} (ob : Obj) {b o : Nat} {v : Value} (hc : w.cell? ⟨b, o, none⟩ = some v) (hf : w.frozen? ⟨b, o, none⟩ = false) : (w.alloc ob).frozen? ⟨b, o, none⟩ = false := by
  rw [World.frozen?_of_block (w := w) (a := ⟨b, o, none⟩) (Below.heap_alloc w ob b (cell_lt hc))]; exact hf
def flat2 : List (Int × Int) → List Value
  | [] => []
  | x :: xs => .int .i64 x.1 :: .int .i64 x.2 :: flat2 xs
theorem flat2_length : ∀ l : List (Int × Int), (flat2 l).length = l.length * 2
  | [] => rfl
  | x :: xs => by simp only [flat2, List.length_cons, flat2_length xs]; omega
theorem flat2_get : ∀ (l : List (Int × Int)) (i : Nat) (hi : i < l.length), (flat2 l)[i * 2]? = some (.int .i64 l[i].1) ∧ (flat2 l)[i * 2 + 1]? = some (.int .i64 l[i].2)
  | x :: xs, 0, _ => by simp [flat2]
  | x :: xs, i + 1, hi => by
    have := flat2_get xs i (by simpa using hi)
    rw [show (i + 1) * 2 = i * 2 + 1 + 1 by omega]
    simp only [flat2, List.getElem_cons_succ, List.getElem?_cons_succ]
    exact this
  | [], _, hi => by simp at hi
theorem flat2_push (l : List (Int × Int)) (x : Int × Int) : flat2 (l ++ [x]) = flat2 l ++ [.int .i64 x.1, .int .i64 x.2] := by
  induction l with
  | nil => rfl
  | cons y ys ih => simp [flat2, ih]
theorem flat2_drop (l : List (Int × Int)) (k : Nat) : (flat2 l).drop (k * 2) = flat2 (l.drop k) := by
  induction l generalizing k with
  | nil => simp [flat2]
  | cons y ys ih =>
    cases k with
    | zero => simp
    | succ k => rw [show (k + 1) * 2 = k * 2 + 1 + 1 by omega]; simp [flat2, ih]
def distL : List (Int × Int) → List (Int × Int)
  | [] => []
  | x :: xs => if (xs.any fun y => x.1 == y.1) = true then distL xs else x :: distL xs
theorem distL_le : ∀ l, (distL l).length ≤ l.length
  | [] => Nat.le_refl _
  | x :: xs => by simp only [distL]; split <;> simp <;> have := distL_le xs <;> omega
def In64 (n : Int) : Prop := -9223372036854775808 ≤ n ∧ n ≤ 9223372036854775807
def lookT (l : List (Int × Int)) (k : Int) : Option Int := ((distL l).find? fun x => x.1 == k).map (·.2)
theorem Try.info2 : (Try.prog.info? 2).map (fun i => (i.zero, i.size, i.bytes)) = some (some (.int .i64 0), 1, 8) := by kernel_rfl
theorem find_first {α : Type} (l : List α) (p : α → Bool) (k : Nat) (hk : k < l.length) (h : p l[k] = true) (hn : ∀ i (_ : i < k), p (l[i]'(by omega)) = false) : l.find? p = some l[k] := by
  induction l generalizing k with
  | nil => simp at hk
  | cons x xs ih =>
    cases k with
    | zero => simp only [List.getElem_cons_zero] at h; simp [List.find?, h]
    | succ k =>
      have h0 := hn 0 (by omega)
      simp only [List.getElem_cons_zero] at h0
      simp only [List.find?, h0, List.getElem_cons_succ]
      exact ih k (by simpa using hk) (by simpa using h) (fun i hi => by have := hn (i + 1) (by omega); simpa using this)
theorem distL_sub : ∀ (l : List (Int × Int)) (x : Int × Int), x ∈ distL l → x ∈ l
  | [], x, h => by simp [distL] at h
  | y :: ys, x, h => by
    simp only [distL] at h
    split at h
    · exact List.mem_cons_of_mem _ (distL_sub ys x h)
    · rcases List.mem_cons.1 h with e | e
      · exact e ▸ List.mem_cons_self
      · exact List.mem_cons_of_mem _ (distL_sub ys x e)
theorem Try.info66 : (Try.prog.info? 66).map (fun i => (i.zero, i.size, i.bytes)) = some (some (.agg #[.int .i64 0, .int .i64 0]), 2, 16) := by kernel_rfl
theorem flat2_take' (l : List (Int × Int)) (n : Nat) : flat2 (l.take n) = (flat2 l).take ((l.take n).length * 2) := by
  induction l generalizing n with
  | nil => simp [flat2]
  | cons x xs ih =>
    cases n with
    | zero => simp [flat2]
    | succ n =>
      rw [List.take_succ_cons, List.length_cons, show ((xs.take n).length + 1) * 2 = (xs.take n).length * 2 + 1 + 1 by omega]
      simp only [flat2, List.take_succ_cons]
      rw [ih]
theorem Row.take {S : Nat → Prop} {w : World} {size n cap k : Nat} {a : Option Addr} {xs : List Value} (h : Row S w size n (.slice a n cap) xs) (hk : k ≤ n) : Row S w size k (.slice a k cap) (xs.take (k * size)) := by
  obtain ⟨hl, a', cap', he, hc, hr⟩ := h
  cases he
  refine ⟨by rw [List.length_take, hl]; exact Nat.min_eq_left (Nat.mul_le_mul_right _ hk), _, _, rfl, by omega, fun hn => ?_⟩
  obtain ⟨b, off, rfl, hS, hcell⟩ := hr (by omega)
  refine ⟨b, off, rfl, hS, fun j u hj => ?_⟩
  rw [List.getElem?_take] at hj
  split at hj
  · exact hcell _ _ hj
  · cases hj
end Go.Proofs.Ytekhoanjpnjaeaa
