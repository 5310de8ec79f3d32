/- PartialLogic's own walk, from what awake does. -/
import Derived.Test.YtknmbmdeilbdkaaGreatDoorPlgA
namespace Go.Proofs.YtknmbmdeilbdkaaGreatDoor
open Go.RowKit

theorem andV_in (a b : Int) : 0 ≤ andV a b ∧ andV a b < 256 := by unfold andV; repeat' split <;> omega
theorem orV_in (a b : Int) : 0 ≤ orV a b ∧ orV a b < 256 := by unfold orV; repeat' split <;> omega
theorem notV_in (a : Int) : 0 ≤ notV a ∧ notV a < 256 := by unfold notV; repeat' split <;> omega
theorem logic_walk (a b : Int) (w : World) (ha : 0 ≤ a ∧ a < 256) (hb : 0 ≤ b ∧ b < 256) (h4 : ∀ w1 : World, w1.heap = w.heap → Calls Tryz.prog 4 #[] w1 fun e w' => e = .returned (.bool true) ∧ Below w1.heap.size w1 w') :
    Calls Tryz.prog 3 #[.int .u8 a, .int .u8 b] w fun e w' => e = .returned (.bool true) ∧ Below w.heap.size w w' := by
  have H4 := Lib.hid h4; clear h4
  have iA := andV_in a b
  have iO := orV_in a b
  have iN := notV_in a
  generalize hA : andV a b = A at *
  generalize hO : orV a b = O at *
  generalize hN : notV a = N at *
  have HA := Lib.hid hA; clear hA
  have HO := Lib.hid hO; clear hO
  have HN := Lib.hid hN; clear hN
  go_enter Tryz.func3, Tryz.ntmps3
  go_wp2_with fail
  refine (H4.out _ rfl).mono ?_; rintro e w1 ⟨rfl, hB⟩
  have HB := Lib.hid hB; clear hB
  go_wp2_with fail
  refine (and5 _ _ _).mono ?_; rintro e w' ⟨rfl, rfl⟩; rw [HA.out]
  go_wp2_with fail
  refine (and6 _ _ _).mono ?_; rintro e w' ⟨rfl, rfl⟩; rw [HA.out]
  go_wp2_with fail
  refine (or7 _ _ _).mono ?_; rintro e w' ⟨rfl, rfl⟩; rw [HO.out]
  go_wp2_with fail
  refine (or8 _ _ _).mono ?_; rintro e w' ⟨rfl, rfl⟩; rw [HO.out]
  go_wp2_with fail
  refine (not9 _ _).mono ?_; rintro e w' ⟨rfl, rfl⟩; rw [HN.out]
  go_wp2_with fail
  refine (not10 _ _).mono ?_; rintro e w' ⟨rfl, rfl⟩; rw [HN.out]
  go_wp2
  go_ret
  exact ⟨rfl, HB.out⟩
end Go.Proofs.YtknmbmdeilbdkaaGreatDoor
