/- Pieces 0 to 4 of awake's run: each call with what it needs and gives, reckoned by the kernel. -/
import Derived.Test.YtknmbmdeilbdkaaGreatDoorPlgG
import Derived.Test.YtknmbmdeilbdkaaGreatDoorFacts
namespace Go.Proofs.YtknmbmdeilbdkaaGreatDoor.Ev
open Go
/-- function 76 -/
noncomputable def o0 : Orc := ⟨76, [.str 66 429485457039914852406353389745319386733977761488733903157417677600416512317420148526773308994130018087492578269565533722975600330791851754082419307183983651942], 12, [] ++ gl, .fn 137 [] [.ptr 12 0], [(12, .row 9 1 1 [.str 66 429485457039914852406353389745319386733977761488733903157417677600416512317420148526773308994130018087492578269565533722975600330791851754082419307183983651942] false false 0)] ++ gl, 13⟩
theorem o0_s : OrcS Tryz.prog 9 o0 := chk_ok mixed (orcs := []) (n := 2000) none_known (by kernel_rfl)
/-- function 42 -/
noncomputable def o1 : Orc := ⟨42, [.str 66 429485457039914852406353389745319386733977761488733903157417677600416512317420148526773308994130018087492578269565533722975600330791851754082419307183983651942], 10, [] ++ gl, .ptr 10 0, [(10, .row 120 1 9 [.sl 98 0 28 28 false, i 0, i 66, .str 0 0, .nils, .nils, .nils, i 0, i 0] false false 0),
  (98, .row 170 3 84 [u 2, .str 5 499917352038, i 0, u 1, .str 1 102, i 6, u 4, .str 1 123, i 8, u 2, .str 9 2147777198292034482019, i 10, u 1, .str 1 97, i 20, u 4, .str 1 123, i 22, u 2, .str 3 7496054, i 24, u 1, .str 1 120, i 28, u 4, .str 1 58, i 29, u 2, .str 3 7630441, i 31, u 4, .str 1 61, i 35, u 3, .str 1 48, i 37, u 4, .str 1 59, i 38, u 2, .str 2 28271, i 40, u 1, .str 1 104, i 43, u 4, .str 1 40, i 44, u 1, .str 1 105, i 45, u 4, .str 1 41, i 46, u 4, .str 1 123, i 48, u 1, .str 1 120, i 50, u 4, .str 1 61, i 52, u 1, .str 1 120, i 54, u 4, .str 1 43, i 56, u 1, .str 1 105, i 58, u 4, .str 1 59, i 59, u 4, .str 1 125, i 61, u 4, .str 1 125, i 63, u 4, .str 1 125, i 65] true false 0)] ++ gl, 99⟩
theorem o1_s : OrcS Tryz.prog 9 o1 := chk_ok mixed (orcs := [o0]) (n := 2000) (and_known o0_s none_known) (by kernel_rfl)
/-- function 43 -/
noncomputable def o2 : Orc := ⟨43, [.ptr 10 0], 99, [(10, .row 120 1 9 [.sl 98 0 28 28 false, i 0, i 66, .str 0 0, .nils, .nils, .nils, i 0, i 0] false false 0),
  (98, .row 170 3 84 [u 2, .str 5 499917352038, i 0, u 1, .str 1 102, i 6, u 4, .str 1 123, i 8, u 2, .str 9 2147777198292034482019, i 10, u 1, .str 1 97, i 20, u 4, .str 1 123, i 22, u 2, .str 3 7496054, i 24, u 1, .str 1 120, i 28, u 4, .str 1 58, i 29, u 2, .str 3 7630441, i 31, u 4, .str 1 61, i 35, u 3, .str 1 48, i 37, u 4, .str 1 59, i 38, u 2, .str 2 28271, i 40, u 1, .str 1 104, i 43, u 4, .str 1 40, i 44, u 1, .str 1 105, i 45, u 4, .str 1 41, i 46, u 4, .str 1 123, i 48, u 1, .str 1 120, i 50, u 4, .str 1 61, i 52, u 1, .str 1 120, i 54, u 4, .str 1 43, i 56, u 1, .str 1 105, i 58, u 4, .str 1 59, i 59, u 4, .str 1 125, i 61, u 4, .str 1 125, i 63, u 4, .str 1 125, i 65] true false 0)] ++ gl, .tup [], [(10, .row 120 1 9 [.sl 98 0 28 28 false, i 28, i 66, .str 1 102, .nils, .nils, .sl 266 0 1 1 false, i 0, i 0] false false 0),
  (98, .row 170 3 84 [u 2, .str 5 499917352038, i 0, u 1, .str 1 102, i 6, u 4, .str 1 123, i 8, u 2, .str 9 2147777198292034482019, i 10, u 1, .str 1 97, i 20, u 4, .str 1 123, i 22, u 2, .str 3 7496054, i 24, u 1, .str 1 120, i 28, u 4, .str 1 58, i 29, u 2, .str 3 7630441, i 31, u 4, .str 1 61, i 35, u 3, .str 1 48, i 37, u 4, .str 1 59, i 38, u 2, .str 2 28271, i 40, u 1, .str 1 104, i 43, u 4, .str 1 40, i 44, u 1, .str 1 105, i 45, u 4, .str 1 41, i 46, u 4, .str 1 123, i 48, u 1, .str 1 120, i 50, u 4, .str 1 61, i 52, u 1, .str 1 120, i 54, u 4, .str 1 43, i 56, u 1, .str 1 105, i 58, u 4, .str 1 59, i 59, u 4, .str 1 125, i 61, u 4, .str 1 125, i 63, u 4, .str 1 125, i 65] true false 0),
  (266, .row 189 3 3 [.str 1 97, .sl 124 0 1 1 false, .sl 261 0 1 1 true] true false 0),
  (124, .row 277 3 3 [.str 1 120, u 1, i 0] true false 0),
  (261, .row 216 1 1 [.sl 259 0 1 1 false] false false 0),
  (259, .row 220 3 3 [.str 1 104, .sl 138 0 1 1 false, .sl 255 0 1 1 false] true false 0),
  (138, .row 9 1 1 [.str 1 105] true false 0),
  (255, .row 309 6 6 [u 1, .str 1 120, .str 0 0, .sl 252 0 1 1 false, .nils, .nils] true false 0),
  (252, .row 343 4 4 [u 14, .str 0 0, i 0, .sl 226 0 2 2 true] true false 0),
  (226, .row 343 1 8 [u 5, .str 1 120, i 0, .nils, u 5, .str 1 105, i 0, .nils] false false 0)] ++ gl, 269⟩
theorem o2_s : OrcS Tryz.prog 9 o2 := chk_ok mixed (orcs := []) (n := 2000) none_known (by kernel_rfl)
/-- function 45 -/
noncomputable def o3 : Orc := ⟨45, [.agg [.str 1 102, .nils, .nils, .sl 266 0 1 1 false]], 269, [(266, .row 189 3 3 [.str 1 97, .sl 124 0 1 1 false, .sl 261 0 1 1 true] true false 0),
  (124, .row 277 3 3 [.str 1 120, u 1, i 0] true false 0),
  (261, .row 216 1 1 [.sl 259 0 1 1 false] false false 0),
  (259, .row 220 3 3 [.str 1 104, .sl 138 0 1 1 false, .sl 255 0 1 1 false] true false 0),
  (138, .row 9 1 1 [.str 1 105] true false 0),
  (255, .row 309 6 6 [u 1, .str 1 120, .str 0 0, .sl 252 0 1 1 false, .nils, .nils] true false 0),
  (252, .row 343 4 4 [u 14, .str 0 0, i 0, .sl 226 0 2 2 true] true false 0),
  (226, .row 343 1 8 [u 5, .str 1 120, i 0, .nils, u 5, .str 1 105, i 0, .nils] false false 0)] ++ gl, i 0, [(266, .row 189 3 3 [.str 1 97, .sl 124 0 1 1 false, .sl 261 0 1 1 true] true false 0),
  (124, .row 277 3 3 [.str 1 120, u 1, i 0] true false 0),
  (261, .row 216 1 1 [.sl 259 0 1 1 false] false false 0),
  (259, .row 220 3 3 [.str 1 104, .sl 138 0 1 1 false, .sl 255 0 1 1 false] true false 0),
  (138, .row 9 1 1 [.str 1 105] true false 0),
  (255, .row 309 6 6 [u 1, .str 1 120, .str 0 0, .sl 252 0 1 1 false, .nils, .nils] true false 0),
  (252, .row 343 4 4 [u 14, .str 0 0, i 0, .sl 226 0 2 2 true] true false 0),
  (226, .row 343 1 8 [u 5, .str 1 120, i 0, .nils, u 5, .str 1 105, i 0, .nils] false false 0)] ++ gl, 317⟩
theorem o3_s : OrcS Tryz.prog 9 o3 := chk_ok mixed (orcs := []) (n := 2000) none_known (by kernel_rfl)
/-- function 19 -/
noncomputable def o4 : Orc := ⟨19, [.str 66 429485457039914852406353389745319386733977761488733903157417677600416512317420148526773308994130018087492578269565533722975600330791851754082419307183983651942], 9, [] ++ gl, .tup [.agg [.str 1 102, .nils, .nils, .sl 266 0 1 1 false], i 0, i 0], [(266, .row 189 3 3 [.str 1 97, .sl 124 0 1 1 false, .sl 261 0 1 1 true] true false 0),
  (124, .row 277 3 3 [.str 1 120, u 1, i 0] true false 0),
  (261, .row 216 1 1 [.sl 259 0 1 1 false] false false 0),
  (259, .row 220 3 3 [.str 1 104, .sl 138 0 1 1 false, .sl 255 0 1 1 false] true false 0),
  (138, .row 9 1 1 [.str 1 105] true false 0),
  (255, .row 309 6 6 [u 1, .str 1 120, .str 0 0, .sl 252 0 1 1 false, .nils, .nils] true false 0),
  (252, .row 343 4 4 [u 14, .str 0 0, i 0, .sl 226 0 2 2 true] true false 0),
  (226, .row 343 1 8 [u 5, .str 1 120, i 0, .nils, u 5, .str 1 105, i 0, .nils] false false 0)] ++ gl, 317⟩
theorem o4_s : OrcS Tryz.prog 9 o4 := chk_ok mixed (orcs := [o1, o2, o3]) (n := 2000) (and_known o1_s (and_known o2_s (and_known o3_s none_known))) (by kernel_rfl)
end Go.Proofs.YtknmbmdeilbdkaaGreatDoor.Ev
