/- Slices that read as a list of cells. No program in sight. -/
import Derived.Test.YtekhoanjpnjaeaaTree
import Derived.Test.YtekhoanjpnjaeaaGrow
import Derived.Laws.AppendOwn
namespace Go.Proofs.Ytekhoanjpnjaeaa
open Go.RowKit

/-- The slice value v has n elements of 'size' cells each, which are xs. -/
def Row (S : Nat → Prop) (w : World) (size n : Nat) (v : Value) (xs : List Value) : Prop :=
  xs.length = n * size ∧ ∃ a cap, v = .slice a n cap ∧ n ≤ cap ∧ (n ≠ 0 → ∃ b off, a = some ⟨b, off, none⟩ ∧ S b ∧ ∀ j u, xs[j]? = some u → w.cell? ⟨b, off + j, none⟩ = some u)

theorem Row.shape {S : Nat → Prop} {w : World} {size n : Nat} {v : Value} {xs : List Value} (h : Row S w size n v xs) : ∃ a cap, v = .slice a n cap ∧ n ≤ cap := by
  obtain ⟨_, a, cap, rfl, hc, _⟩ := h; exact ⟨a, cap, rfl, hc⟩
theorem Row.at {S : Nat → Prop} {w : World} {size n len cap : Nat} {a : Option Addr} {xs : List Value} (h : Row S w size n (.slice a len cap) xs) (hn : n ≠ 0) :
    ∃ b off, a = some ⟨b, off, none⟩ ∧ len = n ∧ S b ∧ ∀ j u, xs[j]? = some u → w.cell? ⟨b, off + j, none⟩ = some u := by
  obtain ⟨_, a', cap', he, _, hr⟩ := h
  cases he
  obtain ⟨b, off, rfl, hS, hc⟩ := hr hn
  exact ⟨b, off, rfl, rfl, hS, hc⟩
theorem Row.nil (S : Nat → Prop) (w : World) (size : Nat) (a : Option Addr) (cap : Nat) : Row S w size 0 (.slice a 0 cap) [] :=
  ⟨by simp, a, cap, rfl, Nat.zero_le _, fun h => absurd rfl h⟩
theorem Row.mono2 {S S' : Nat → Prop} {w w' : World} {size n : Nat} {v : Value} {xs : List Value} (hs : 0 < size) (hw : ∀ b off u, S b → w.cell? ⟨b, off, none⟩ = some u → S' b ∧ w'.cell? ⟨b, off, none⟩ = some u) (h : Row S w size n v xs) : Row S' w' size n v xs := by
  obtain ⟨hl, a, cap, rfl, hc, hr⟩ := h
  refine ⟨hl, a, cap, rfl, hc, fun hn => ?_⟩
  obtain ⟨b, off, rfl, hS, hcell⟩ := hr hn
  have h0 : 0 < xs.length := by rw [hl]; exact Nat.mul_pos (by omega) hs
  exact ⟨b, off, rfl, (hw _ _ _ hS (hcell 0 xs[0] (List.getElem?_eq_getElem h0))).1, fun j u hj => (hw _ _ _ hS (hcell j u hj)).2⟩
theorem Row.mono {S S' : Nat → Prop} {w w' : World} {size n : Nat} {v : Value} {xs : List Value} (hS : ∀ b, S b → S' b) (hw : ∀ b off u, S b → w.cell? ⟨b, off, none⟩ = some u → w'.cell? ⟨b, off, none⟩ = some u) (h : Row S w size n v xs) : Row S' w' size n v xs := by
  obtain ⟨hl, a, cap, rfl, hc, hr⟩ := h
  refine ⟨hl, a, cap, rfl, hc, fun hn => ?_⟩
  obtain ⟨b, off, rfl, hb, hcell⟩ := hr hn
  exact ⟨b, off, rfl, hS b hb, fun j u hj => hw _ _ _ hb (hcell j u hj)⟩
theorem Row.below {S : Nat → Prop} {w w' : World} {size n : Nat} {v : Value} {xs : List Value} (hB : Below w.heap.size w w') (h : Row S w size n v xs) : Row S w' size n v xs :=
  h.mono (fun _ h => h) (fun _ _ _ _ h => below_cell hB h)
/-- A row that append has made. -/
theorem Row.of_owns {w : World} {B : Nat} {e : TypeId} {n size : Nat} {v : Value} {xs : List Value} (h : w.ownsRow B e size v n xs) : Row (fun x => B ≤ x) w size n v xs := by
  obtain ⟨hl, h | ⟨g, cap, cur, rfl, hB, hg, hnc, _, _, ht⟩⟩ := h
  · obtain ⟨rfl, rfl⟩ := h
    have : xs = [] := by simpa using hl
    subst this
    exact Row.nil _ _ _ _ _
  · refine ⟨hl, _, cap, rfl, hnc, fun _ => ⟨g, 0, rfl, hB, fun j u hj => ?_⟩⟩
    simp only [World.cell?, hg, Nat.zero_add]
    rw [← ht, List.getElem?_take] at hj
    split at hj
    · simpa using hj
    · cases hj
/-- What is left behind the first k elements. -/
theorem Row.drop {S : Nat → Prop} {w : World} {size n cap k : Nat} {b off : Nat} {xs : List Value} (h : Row S w size n (.slice (some ⟨b, off, none⟩) n cap) xs) (hk : k ≤ n) :
    Row S w size (n - k) (.slice (some ⟨b, off + k * size, none⟩) (n - k) (cap - k)) (xs.drop (k * size)) := by
  obtain ⟨hl, a, cap', he, hc, hr⟩ := h
  cases he
  refine ⟨by rw [List.length_drop, hl, Nat.sub_mul], _, _, rfl, by omega, fun hn => ?_⟩
  obtain ⟨b', off', he', hS, hcell⟩ := hr (by omega)
  cases he'
  refine ⟨b, off + k * size, rfl, hS, fun j u hj => ?_⟩
  rw [List.getElem?_drop] at hj
  rw [Nat.add_assoc]
  exact hcell _ _ hj
end Go.Proofs.Ytekhoanjpnjaeaa
