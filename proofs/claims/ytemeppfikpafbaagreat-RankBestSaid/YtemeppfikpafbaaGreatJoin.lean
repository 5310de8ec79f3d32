/- The reference's Joint (29). -/
import Derived.Test.YtemeppfikpafbaaGreatRefR
namespace Go.Proofs.YtemeppfikpafbaaGreat
open Go.RowKit
theorem CRow.more {w w' : World} {l : List Cau} {v : Value} (hB : More w w') (h : CRow w l v) : CRow w' l v := h.below hB.below
/-- All keys are among the others. -/
def allIn (ks u : List K4) : Bool := ks.all fun x => decide (x ∈ u)
theorem allIn_iff (ks u : List K4) : allIn ks u = true ↔ ∀ x ∈ ks, x ∈ u := by unfold allIn; simp
theorem allIn_push (ks u : List K4) (x : K4) : allIn (ks ++ [x]) u = (allIn ks u && decide (x ∈ u)) := by unfold allIn; simp
end Go.Proofs.YtemeppfikpafbaaGreat
