/- The cache where another block is written: plain laws of CacheKeeps. -/
import Derived.Test.YtemeppfikpafbaaPut2B
namespace Go.Proofs.Ytemeppfikpafbaa
open Go.RowKit
theorem CState.other {S0 : Nat → Prop} {w w' : World} {CB : Nat} {lim hits : Int} {E : List Ent} {M : Nat} {v : Value} {raw : List RawE} (h : CState S0 w CB lim hits E M v raw) {B : Option Nat} (hg : w.grownBy w' B)
    (hB : ∀ g, B = some g → g ≠ CB ∧ v.ownBlock ≠ some g ∧ ¬ S0 g) : CState S0 w' CB lim hits E M v raw := by
  refine ⟨(hg.block CB (blk_lt h.blk) (fun e => (hB CB e.symm).1 rfl)).trans h.blk, h.len, owns_keep h.own (fun z hz => hg.block z ((owns_shape h.own).choose_spec.choose_spec.2 z hz).2 (fun e => (hB z e.symm).2.1 hz)), h.lt, h.cb, fun i a b => ?_, h.ok⟩
  refine (h.ent i a b).lt.mono (fun b hb => hb.1) (fun b off u hb hc => ?_)
  rw [← hc]
  exact World.cell?_of_block (w := w) (a := ⟨b, off, none⟩) (hg.block b hb.2 (fun e => (hB b e.symm).2.2 hb.1.2.2))
/-- An own block in which some cells are integers. -/
def IntsAt (w : World) (a : Option Addr) (n k c T : Nat) : Prop := n = 0 ∨ ∃ (g : Nat) (cur : Array Value), a = some ⟨g, 0, none⟩ ∧ w.heap[g]? = some (.cells cur T) ∧ ∀ i, i < n → ∃ x : Int, cur[i * k + c]? = some (.int .i64 x)
theorem IntsAt.keep {w w' : World} {a : Option Addr} {n k c T : Nat} (h : IntsAt w a n k c T) (hw : ∀ g, a = some ⟨g, 0, none⟩ → w'.heap[g]? = w.heap[g]?) : IntsAt w' a n k c T := by
  rcases h with h | ⟨g, cur, e, hb, hi⟩
  · exact Or.inl h
  · exact Or.inr ⟨g, cur, e, (hw g e).trans hb, hi⟩
theorem IntsAt.set {w : World} {a : Option Addr} {n k c T i : Nat} (h : IntsAt w a n k c T) (hi : i < n) (x : Int) : ∃ g, a = some ⟨g, 0, none⟩ ∧ IntsAt (w.setCell ⟨g, i * k + c, none⟩ (.int .i64 x)) a n k c T := by
  rcases h with h | ⟨g, cur, e, hb, hq⟩
  · omega
  · refine ⟨g, e, Or.inr ⟨g, _, e, setCell_heap hb, fun j hj => ?_⟩⟩
    obtain ⟨y, hy⟩ := hq j hj
    by_cases hjk : j * k + c = i * k + c
    · exact ⟨x, by rw [hjk, Array.getElem?_setIfInBounds_self_of_lt]; obtain ⟨z, hz⟩ := hq i hi; exact (Array.getElem?_eq_some_iff.1 hz).1⟩
    · exact ⟨y, by rw [Array.getElem?_setIfInBounds_ne (fun e => hjk e.symm)]; exact hy⟩
theorem IntsAt.of_owns {α : Type} {c : α → List Value} {w : World} {N T k n : Nat} {a : Option Addr} {cap : Nat} {l : List α} (hc : ∀ x, (c x).length = k) (q : Nat) (_hq : q < k) (hx : ∀ x, ∃ y : Int, (c x)[q]? = some (.int .i64 y)) (hn : n = l.length) (h : w.ownsRow N T k (.slice a n cap) n (flatC c l)) : IntsAt w a n k q T := by
  obtain ⟨_, ⟨h0, hn0⟩ | ⟨g, cap', cur, hv, hb, hg, hnc, hcm, hcs, htk⟩⟩ := h
  · exact Or.inl hn0
  · cases hv
    refine Or.inr ⟨g, cur, rfl, hg, fun i hi => ?_⟩
    subst hn
    obtain ⟨y, hy⟩ := hx l[i]
    refine ⟨y, ?_⟩
    have h1 := flatC_get hc l i hi q _ hy
    rw [← htk, List.getElem?_take] at h1
    split at h1
    · rw [← Array.getElem?_toList]; exact h1
    · cases h1
end Go.Proofs.Ytemeppfikpafbaa
