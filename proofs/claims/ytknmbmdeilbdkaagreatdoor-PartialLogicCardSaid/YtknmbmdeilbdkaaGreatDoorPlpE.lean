/- Pieces 13 to 16 of awake's run: each call with what it needs and gives, reckoned by the kernel. -/
import Derived.Test.YtknmbmdeilbdkaaGreatDoorPlgG
import Derived.Test.YtknmbmdeilbdkaaGreatDoorFacts
namespace Go.Proofs.YtknmbmdeilbdkaaGreatDoor.Ev
open Go
/-- function 13 -/
noncomputable def o13 : Orc := ⟨13, [.nils, .sl 768 0 13 22 true], 770, [(768, .row 5 1 22 [u 1, u 0, u 0, u 0, u 0, u 4, u 0, u 0, u 0, u 0, u 0, u 1, u 2, u 0, u 0, u 0, u 0, u 0, u 0, u 0, u 0, u 0] false false 0)] ++ gl, .tup [.sl 771 0 21 21 true, i 0], [(771, .row 5 1 21 [u 165, u 90, u 13, u 0, u 119, u 138, u 66, u 126, u 1, u 0, u 0, u 0, u 0, u 4, u 0, u 0, u 0, u 0, u 0, u 1, u 2] false false 0),
  (768, .row 5 1 22 [u 1, u 0, u 0, u 0, u 0, u 4, u 0, u 0, u 0, u 0, u 0, u 1, u 2, u 0, u 0, u 0, u 0, u 0, u 0, u 0, u 0, u 0] false false 0)] ++ gl, 774⟩
theorem o13_s : OrcS Tryz.prog 9 o13 := chk_ok mixed (orcs := []) (n := 2000) none_known (by kernel_rfl)
/-- function 13 -/
noncomputable def o14 : Orc := ⟨13, [.sl 771 0 21 21 true, .sl 805 0 13 22 true], 807, [(771, .row 5 1 21 [u 165, u 90, u 13, u 0, u 119, u 138, u 66, u 126, u 1, u 0, u 0, u 0, u 0, u 4, u 0, u 0, u 0, u 0, u 0, u 1, u 2] false false 0),
  (805, .row 5 1 22 [u 1, u 0, u 1, u 0, u 2, u 4, u 0, u 1, u 0, u 0, u 0, u 1, u 2, u 0, u 0, u 0, u 0, u 0, u 0, u 0, u 0, u 0] false false 0)] ++ gl, .tup [.sl 808 0 42 42 true, i 0], [(808, .row 5 1 42 [u 165, u 90, u 13, u 0, u 119, u 138, u 66, u 126, u 1, u 0, u 0, u 0, u 0, u 4, u 0, u 0, u 0, u 0, u 0, u 1, u 2, u 165, u 90, u 13, u 0, u 206, u 204, u 146, u 235, u 1, u 0, u 1, u 0, u 2, u 4, u 0, u 1, u 0, u 0, u 0, u 1, u 2] false false 0),
  (771, .row 5 1 21 [u 165, u 90, u 13, u 0, u 119, u 138, u 66, u 126, u 1, u 0, u 0, u 0, u 0, u 4, u 0, u 0, u 0, u 0, u 0, u 1, u 2] false false 0),
  (805, .row 5 1 22 [u 1, u 0, u 1, u 0, u 2, u 4, u 0, u 1, u 0, u 0, u 0, u 1, u 2, u 0, u 0, u 0, u 0, u 0, u 0, u 0, u 0, u 0] false false 0)] ++ gl, 811⟩
theorem o14_s : OrcS Tryz.prog 9 o14 := chk_ok mixed (orcs := []) (n := 2000) none_known (by kernel_rfl)
/-- function 13 -/
noncomputable def o15 : Orc := ⟨13, [.sl 808 0 42 42 true, .sl 842 0 13 22 true], 844, [(808, .row 5 1 42 [u 165, u 90, u 13, u 0, u 119, u 138, u 66, u 126, u 1, u 0, u 0, u 0, u 0, u 4, u 0, u 0, u 0, u 0, u 0, u 1, u 2, u 165, u 90, u 13, u 0, u 206, u 204, u 146, u 235, u 1, u 0, u 1, u 0, u 2, u 4, u 0, u 1, u 0, u 0, u 0, u 1, u 2] false false 0),
  (842, .row 5 1 22 [u 1, u 0, u 3, u 0, u 5, u 4, u 0, u 3, u 0, u 0, u 0, u 1, u 2, u 0, u 0, u 0, u 0, u 0, u 0, u 0, u 0, u 0] false false 0)] ++ gl, .tup [.sl 845 0 63 63 true, i 0], [(845, .row 5 1 63 [u 165, u 90, u 13, u 0, u 119, u 138, u 66, u 126, u 1, u 0, u 0, u 0, u 0, u 4, u 0, u 0, u 0, u 0, u 0, u 1, u 2, u 165, u 90, u 13, u 0, u 206, u 204, u 146, u 235, u 1, u 0, u 1, u 0, u 2, u 4, u 0, u 1, u 0, u 0, u 0, u 1, u 2, u 165, u 90, u 13, u 0, u 100, u 59, u 113, u 220, u 1, u 0, u 3, u 0, u 5, u 4, u 0, u 3, u 0, u 0, u 0, u 1, u 2] false false 0),
  (808, .row 5 1 42 [u 165, u 90, u 13, u 0, u 119, u 138, u 66, u 126, u 1, u 0, u 0, u 0, u 0, u 4, u 0, u 0, u 0, u 0, u 0, u 1, u 2, u 165, u 90, u 13, u 0, u 206, u 204, u 146, u 235, u 1, u 0, u 1, u 0, u 2, u 4, u 0, u 1, u 0, u 0, u 0, u 1, u 2] false false 0),
  (842, .row 5 1 22 [u 1, u 0, u 3, u 0, u 5, u 4, u 0, u 3, u 0, u 0, u 0, u 1, u 2, u 0, u 0, u 0, u 0, u 0, u 0, u 0, u 0, u 0] false false 0)] ++ gl, 848⟩
theorem o15_s : OrcS Tryz.prog 9 o15 := chk_ok mixed (orcs := []) (n := 2000) none_known (by kernel_rfl)
/-- function 15 -/
noncomputable def o16 : Orc := ⟨15, [.ptr 732 0, i 0, .sl 845 0 63 63 true], 848, [(732, .row 72 1 1 [.sl 731 0 2 2 true] false false 0),
  (731, .row 85 1 8 [.nils, .nils, .bool false, .int .u64 0, .nils, .nils, .bool false, .int .u64 0] false false 0),
  (845, .row 5 1 63 [u 165, u 90, u 13, u 0, u 119, u 138, u 66, u 126, u 1, u 0, u 0, u 0, u 0, u 4, u 0, u 0, u 0, u 0, u 0, u 1, u 2, u 165, u 90, u 13, u 0, u 206, u 204, u 146, u 235, u 1, u 0, u 1, u 0, u 2, u 4, u 0, u 1, u 0, u 0, u 0, u 1, u 2, u 165, u 90, u 13, u 0, u 100, u 59, u 113, u 220, u 1, u 0, u 3, u 0, u 5, u 4, u 0, u 3, u 0, u 0, u 0, u 1, u 2] false false 0)] ++ gl, i 0, [(732, .row 72 1 1 [.sl 731 0 2 2 true] false false 0),
  (731, .row 85 1 8 [.sl 959 0 3 3 false, .nils, .bool false, .int .u64 0, .nils, .nils, .bool false, .int .u64 0] false false 0),
  (959, .row 47 29 87 [i 0, .int .u64 0, .int .u64 0, .int .u64 0, .int .u64 0, .int .u64 0, .int .u64 0, .int .u64 0, .int .u64 0, .int .u64 0, .int .u64 0, .int .u64 0, .int .u64 0, .int .u64 0, .int .u64 0, .int .u64 0, .int .u64 0, .int .u64 0, u 1, i 0, i 0, u 4, i 0, i 0, i 0, i 0, i 0, .sl 936 0 1 1 false, .int .u64 0, i 0, .int .u64 1, .int .u64 0, .int .u64 0, .int .u64 0, .int .u64 0, .int .u64 0, .int .u64 0, .int .u64 0, .int .u64 0, .int .u64 0, .int .u64 0, .int .u64 0, .int .u64 0, .int .u64 0, .int .u64 0, .int .u64 0, .int .u64 0, u 1, i 2, i 0, u 4, i 0, i 1, i 0, i 0, i 0, .sl 943 0 1 1 false, .int .u64 0, i 0, .int .u64 3, .int .u64 0, .int .u64 0, .int .u64 0, .int .u64 0, .int .u64 0, .int .u64 0, .int .u64 0, .int .u64 0, .int .u64 0, .int .u64 0, .int .u64 0, .int .u64 0, .int .u64 0, .int .u64 0, .int .u64 0, .int .u64 0, u 1, i 5, i 0, u 4, i 0, i 3, i 0, i 0, i 0, .sl 950 0 1 1 false, .int .u64 0] true false 0),
  (936, .row 2 1 1 [i 1] true false 0),
  (943, .row 2 1 1 [i 1] true false 0),
  (950, .row 2 1 1 [i 1] true false 0),
  (845, .row 5 1 63 [u 165, u 90, u 13, u 0, u 119, u 138, u 66, u 126, u 1, u 0, u 0, u 0, u 0, u 4, u 0, u 0, u 0, u 0, u 0, u 1, u 2, u 165, u 90, u 13, u 0, u 206, u 204, u 146, u 235, u 1, u 0, u 1, u 0, u 2, u 4, u 0, u 1, u 0, u 0, u 0, u 1, u 2, u 165, u 90, u 13, u 0, u 100, u 59, u 113, u 220, u 1, u 0, u 3, u 0, u 5, u 4, u 0, u 3, u 0, u 0, u 0, u 1, u 2] false false 0)] ++ gl, 969⟩
theorem o16_s : OrcS Tryz.prog 9 o16 := chk_ok mixed (orcs := []) (n := 2000) none_known (by kernel_rfl)
end Go.Proofs.YtknmbmdeilbdkaaGreatDoor.Ev
