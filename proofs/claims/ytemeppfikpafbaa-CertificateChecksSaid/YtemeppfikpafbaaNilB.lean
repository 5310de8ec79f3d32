/- Small facts on rows: nil slices, appended rows, worlds that grow. -/
import Derived.Test.YtemeppfikpafbaaDistM
namespace Go.Proofs.Ytemeppfikpafbaa
open Go.RowKit
theorem more_alloc (w : World) (o : Obj) : More w (w.alloc o) := (Lay.alloc w o).1
def NilA (v : Value) : Prop := ∀ n c, v = .slice none n c → c = 0
theorem ownsRow_empty (w : World) (e : TypeId) (size : Nat) : (w.alloc (.cells #[] e)).ownsRow w.heap.size e size (.slice (some ⟨w.heap.size, 0, none⟩) 0 0) 0 [] :=
  World.ownsRow_made (base := w.heap.size) (e := e) (size := size) w #[] 0 (Nat.le_refl _) (by unfold maxLen; omega) (by simp)
theorem owns_nil {w : World} {B : Nat} {e : TypeId} {n size : Nat} {v : Value} {xs : List Value} (h : w.ownsRow B e size v n xs) : NilA v := by
  obtain ⟨_, h | ⟨g, cap, cur, rfl, _⟩⟩ := h
  · rw [h.1]; intro n c e; cases e; rfl
  · intro n c e; cases e
theorem mC_one (l : List M3) : ∀ u ∈ flatC mC l, u.oneCell' = true := by
  intro u hu
  unfold flatC at hu
  obtain ⟨x, _, hx⟩ := List.mem_flatMap.1 hu
  simp [mC] at hx
  rcases hx with rfl | rfl | rfl <;> rfl
theorem Row.lt {S : Nat → Prop} {w : World} {size n : Nat} {v : Value} {xs : List Value} (hs : 0 < size) (h : Row S w size n v xs) : Row (fun b => S b ∧ b < w.heap.size) w size n v xs :=
  h.mono2 hs fun _ _ _ hb hc => ⟨⟨hb, cell_lt hc⟩, hc⟩
theorem moreGrown {w w1 w2 : World} {B : Option Nat} (h : More w w1) (g : w1.grownBy w2 B) (hB : ∀ b, B = some b → w.heap.size ≤ b) : More w w2 :=
  ⟨g.os.trans h.os, g.tape.trans h.tape, g.output.trans h.output, Nat.le_trans h.size g.size, fun k hk _ => (g.block k (Nat.lt_of_lt_of_le hk h.size) (fun e => by have := hB k e.symm; omega)).trans (h.block hk)⟩
theorem row_news {S : Nat → Prop} {α : Type} {c : α → List Value} {k : Nat} (_hk : ∀ x, (c x).length = k) {w : World} {l : List α} {ta : Addr} {cap : Nat} (h : Row S w k l.length (.slice (some ta) l.length cap) (flatC c l)) : ∀ i u, (flatC c l)[i]? = some u → w.cell? (ta.add i) = some u := fun i u hu => by
  have hne : l.length ≠ 0 := by
    intro e
    have : l = [] := List.length_eq_zero_iff.1 e
    rw [this] at hu; simp [flatC] at hu
  obtain ⟨b2, off2, he, _, _, hc2⟩ := h.at hne
  cases he
  rw [Addr.add_lit]
  exact hc2 i u hu
end Go.Proofs.Ytemeppfikpafbaa
