/- The connectives of three-valued logic, of the program and of the document. -/
import Derived.Test.YtknmbmdeilbdkaaGreatDoorProg
import Derived.WalkKit
import Derived.WalkLawsBesides
import Derived.WalkSpells
import Derived.Outline
import Derived.Lib.Hide
namespace Go.Proofs.YtknmbmdeilbdkaaGreatDoor
open Go.RowKit

def andV (a b : Int) : Int := if a = 1 ∨ b = 1 then 1 else if a = 2 ∧ b = 2 then 2 else 3
def orV (a b : Int) : Int := if a = 2 ∨ b = 2 then 2 else if a = 1 ∧ b = 1 then 1 else 3
def notV (a : Int) : Int := if a = 1 then 2 else if a = 2 then 1 else 3
theorem or_not (a b : Int) : notV (andV (notV a) (notV b)) = orV a b := by
  unfold notV andV orV
  repeat' split
  all_goals omega
theorem not9 (a : Int) (w : World) : Calls Tryz.prog 9 #[.int .u8 a] w fun e w' => e = .returned (.int .u8 (notV a)) ∧ w = w' := by
  generalize hV : notV a = V
  have HV := Lib.hid hV; clear hV
  go_enter Tryz.func9, Tryz.ntmps9
  go_wp2
  all_goals go_ret
  all_goals refine ⟨?_, rfl⟩
  all_goals (rw [← HV.out]; simp_all [notV])
theorem not10 (a : Int) (w : World) : Calls Tryz.prog 10 #[.int .i64 a] w fun e w' => e = .returned (.int .i64 (notV a)) ∧ w = w' := by
  generalize hV : notV a = V
  have HV := Lib.hid hV; clear hV
  go_enter Tryz.func10, Tryz.ntmps10
  go_wp2
  all_goals go_ret
  all_goals refine ⟨?_, rfl⟩
  all_goals (rw [← HV.out]; simp_all [notV])
theorem and5 (a b : Int) (w : World) : Calls Tryz.prog 5 #[.int .u8 a, .int .u8 b] w fun e w' => e = .returned (.int .u8 (andV a b)) ∧ w = w' := by
  generalize hV : andV a b = V
  have HV := Lib.hid hV; clear hV
  go_enter Tryz.func5, Tryz.ntmps5
  go_wp2
  all_goals go_ret
  all_goals refine ⟨?_, rfl⟩
  all_goals (rw [← HV.out]; simp_all [andV])
theorem and6 (a b : Int) (w : World) : Calls Tryz.prog 6 #[.int .i64 a, .int .i64 b] w fun e w' => e = .returned (.int .i64 (andV a b)) ∧ w = w' := by
  generalize hV : andV a b = V
  have HV := Lib.hid hV; clear hV
  go_enter Tryz.func6, Tryz.ntmps6
  go_wp2
  all_goals go_ret
  all_goals refine ⟨?_, rfl⟩
  all_goals (rw [← HV.out]; simp_all [andV])
theorem or7 (a b : Int) (w : World) : Calls Tryz.prog 7 #[.int .u8 a, .int .u8 b] w fun e w' => e = .returned (.int .u8 (orV a b)) ∧ w = w' := by
  generalize hV : orV a b = V
  have HV := Lib.hid hV; clear hV
  go_enter Tryz.func7, Tryz.ntmps7
  go_wp2
  all_goals go_ret
  all_goals refine ⟨?_, rfl⟩
  all_goals (rw [← HV.out]; simp_all [orV])
theorem or8 (a b : Int) (w : World) : Calls Tryz.prog 8 #[.int .i64 a, .int .i64 b] w fun e w' => e = .returned (.int .i64 (orV a b)) ∧ w = w' := by
  rw [← or_not]
  generalize hA : notV a = A
  generalize hB : notV b = B
  generalize hC : andV A B = C
  have HA := Lib.hid hA; clear hA
  have HB := Lib.hid hB; clear hB
  have HC := Lib.hid hC; clear hC
  go_enter Tryz.func8, Tryz.ntmps8
  go_wp2_with fail
  refine (not10 _ _).mono ?_; rintro e w' ⟨rfl, rfl⟩; rw [HA.out]
  go_wp2_with fail
  refine (not10 _ _).mono ?_; rintro e w' ⟨rfl, rfl⟩; rw [HB.out]
  go_wp2_with fail
  refine (and6 _ _ _).mono ?_; rintro e w' ⟨rfl, rfl⟩; rw [HC.out]
  go_wp2_with fail
  refine (not10 _ _).mono ?_; rintro e w' ⟨rfl, rfl⟩
  go_wp2
  go_ret
  exact ⟨rfl, rfl⟩
end Go.Proofs.YtknmbmdeilbdkaaGreatDoor
