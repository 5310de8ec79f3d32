/- slices.Grow of nil at table's entries (120). -/
import Derived.Test.YtekhoanjpnjaeaaGet
import Derived.Shelf.Spec.SlicesGrow
import Derived.Test.YtekhoanjpnjaeaaShelfG
namespace Go.Proofs.Ytekhoanjpnjaeaa
open Go.RowKit Go.Shelf
theorem Try.info151 : (Try.prog.info? 151).map (fun i => (i.zero, i.size, i.bytes)) = some (some (.agg #[.int .i64 0, .int .i64 0]), 2, 16) := by kernel_rfl

theorem grow_any (n : Nat) (w : World) (hn : n ≤ 8796093022208) :
    Calls Try.prog 120 #[.slice none 0 0, .int .i64 n] w fun e w' => Below w.heap.size w w' ∧ ∃ v, e = .returned v ∧ w'.ownsRow w.heap.size 151 2 v 0 [] := by
  obtain ⟨i0, hi0, hz0, hz1, hz2⟩ := info_parts Try.info151
  by_cases h0 : n = 0
  · subst h0
    refine (Any8.slices_Grow_room Try.growE none 0 0 0 w (Nat.le_refl _) (by omega) (by omega) (by omega)).mono ?_
    rintro e w' ⟨rfl, rfl⟩
    exact ⟨Below.refl _ _, _, rfl, World.ownsRow_nil _ _ _ _⟩
  · refine (Any8.slices_Grow_grow Try.growE i0 _ hi0 hz0 (by omega) none 0 0 n [] w (Nat.le_refl _) (by omega) (by rw [hz2]; omega) (by omega) (by simp) (fun _ => rfl) (fun _ h => by cases h)).mono ?_
    rintro e w' ⟨rfl, rfl⟩
    refine ⟨(below_drewN w 1 _).alloc (Nat.le_refl _) _, _, rfl, ?_⟩
    have hg := grownCap_ge w (0 + n) 0 (Try.growE_ren.t 25)
    refine World.ownsRow_made w.drew _ _ (Nat.le_refl _) (grownCap_le_maxLen _ _ _ _ (by unfold maxLen; omega)) ?_
    rw [Array.size_append, Array.size_append, size_zeroCells, size_zeroCells, show (Value.agg #[.int .i64 0, .int .i64 0]).cells.size = 2 from by simp [Value.cells]]
    simp only [List.size_toArray, List.length_nil]
    generalize grownCap w (0 + n) 0 (Try.growE_ren.t 25) = g at *
    omega
end Go.Proofs.Ytekhoanjpnjaeaa
