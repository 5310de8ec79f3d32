/- The walk of TableOrders (10). -/
import Derived.Test.YtekhoanjpnjaeaaOrdL

import Derived.Test.YtekhoanjpnjaeaaAwake9
import Derived.OpenShut
import Derived.IntWalk
import Derived.Deep.DeepCutAuto
namespace Go.Proofs.Ytekhoanjpnjaeaa
open Go.RowKit

set_option maxRecDepth 100000 in
set_option maxHeartbeats 4000000 in
theorem orders_walk (hs40 : SortSaid 40) (l : List (Int × Int)) (v : Value) (a1 a2 b1 b2 : Int) (w : World) (hl : l.length ≤ maxLen) (hnil : NilA v) (h : Row (fun _ => True) w 2 l.length v (flat2 l)) :
    Calls Try.prog 10 #[v, .agg #[.int .i64 a1, .int .i64 a2], .agg #[.int .i64 b1, .int .i64 b2]] w fun e w' => e = .returned (.bool true) ∧ Below w.heap.size w w' := by
  obtain ⟨va, vc, rfl, hcap⟩ := h.shape
  have HR := Lib.hid h; clear h hcap
  have HL40 := Lib.hid (show (l.take 40).length ≤ 40 from List.length_take_le 40 l)
  go_enter Try.func10, Try.ntmps10
  go_wp2_with fail
  refine (awake9_any _).mono ?_
  rintro e w1 ⟨rfl, hm1⟩
  have HM1 := Lib.hid (more_trans (more_of (((Below.refl _ w).alloc (Nat.le_refl _) (.cells #[.int .i64 a1, .int .i64 a2] 66)).alloc (by simp) (.cells #[.int .i64 b1, .int .i64 b2] 66))) hm1)
  have HB1 := Lib.hid (show w1.cell? ⟨w.heap.size, 0, none⟩ = some (.int .i64 a1) ∧ w1.cell? ⟨w.heap.size, 1, none⟩ = some (.int .i64 a2) ∧ w1.cell? ⟨w.heap.size + 1, 0, none⟩ = some (.int .i64 b1) ∧ w1.cell? ⟨w.heap.size + 1, 1, none⟩ = some (.int .i64 b2) from ⟨hm1.cell (by go_simp), hm1.cell (by go_simp), hm1.cell (by go_simp), hm1.cell (by go_simp)⟩)
  clear hm1
  go_wp2_with fail
  refine (few_any (fun _ => True) l _ w1 hl hnil (HR.out.below HM1.out.below)).mono ?_
  rintro e w2 ⟨hw2, fa, fc, rfl, hr2⟩
  subst hw2
  have HR2 := Lib.hid hr2; clear hr2
  generalize l.take 40 = l4 at *
  go_wp2_with fail
  refine (of_tv hs40 (fun _ => True) l4 _ _ HL40.out (by have := HL40.out; omega) HR2.out).mono ?_
  rintro e w2 ⟨hm2, tv, rfl, ht2⟩
  have HA := Lib.hid (asc_of l4)
  have htl : (ofL l4).length ≤ 40 := by have := ofL_len l4; have := HL40.out; omega
  clear HL40 HR2 HR hnil hl
  generalize ofL l4 = t at *
  obtain ⟨ta, tc, rfl⟩ := ht2.shape
  have hcT : (w2.alloc (.cells #[.slice ta t.length tc] 54)).cell? ⟨w2.heap.size, 0, none⟩ = some (.slice ta t.length tc) := by go_simp
  have hm3 : More w2 (w2.alloc (.cells #[.slice ta t.length tc] 54)) := more_of ((Below.refl _ w2).alloc (Nat.le_refl _) _)
  have HQ := Lib.hid (And.intro hm2 (And.intro hm3 (And.intro hcT ht2)))
  clear hm2 hm3 hcT ht2
  go_wp2_with fail
  generalize w2.alloc (.cells #[.slice ta t.length tc] 54) = w3 at *
  generalize w2.heap.size = TB at *
  obtain ⟨hm2, hm3, hcT, ht2⟩ := HQ.out
  have HM3 := Lib.hid (more_trans HM1.out (more_trans hm2 hm3))
  have HX := Lib.hid (show ∀ W, More w3 W → W.cell? ⟨w.heap.size, 0, none⟩ = some (.int .i64 a1) ∧ W.cell? ⟨w.heap.size, 1, none⟩ = some (.int .i64 a2) ∧ W.cell? ⟨w.heap.size + 1, 0, none⟩ = some (.int .i64 b1) ∧ W.cell? ⟨w.heap.size + 1, 1, none⟩ = some (.int .i64 b2) ∧ W.cell? ⟨TB, 0, none⟩ = some (.slice ta t.length tc) from fun W hm => by
    have h1 := HB1.out
    exact ⟨hm.cell (hm3.cell (hm2.cell h1.1)), hm.cell (hm3.cell (hm2.cell h1.2.1)), hm.cell (hm3.cell (hm2.cell h1.2.2.1)), hm.cell (hm3.cell (hm2.cell h1.2.2.2)), hm.cell hcT⟩)
  have HT3 := Lib.hid (ht2.more hm3)
  clear HQ hm2 hm3 hcT ht2 HB1 HM1
  have K3 := HX.out w3 (World.grownBy.refl _ _)
  have HLt := Lib.hid (show t.length < 1000000 by omega)
  have HLp1 := Lib.hid (show (putL t a1 a2).length < 1000000 by have := putL_len t a1 a2; omega)
  have HLp2 := Lib.hid (show (putL (putL t a1 a2) b1 b2).length < 1000000 by have := putL_len t a1 a2; have := putL_len (putL t a1 a2) b1 b2; omega)
  have HLp3 := Lib.hid (show (putL t b1 b2).length < 1000000 by have := putL_len t b1 b2; omega)
  have HLp4 := Lib.hid (show (putL (putL t b1 b2) a1 a2).length < 1000000 by have := putL_len t b1 b2; have := putL_len (putL t b1 b2) a1 a2; omega)
  have HLd5 := Lib.hid (show (delL t a1).length < 1000000 by have := delL_le t a1; omega)
  have HLp6 := Lib.hid (show (putL (delL t a1) b1 b2).length < 1000000 by have := delL_le t a1; have := putL_len (delL t a1) b1 b2; omega)
  have HLd8 := Lib.hid (show (delL (putL t b1 b2) a1).length < 1000000 by have := putL_len t b1 b2; have := delL_le (putL t b1 b2) a1; omega)
  have HLdu := Lib.hid (show (delL (putL t a1 a2) a1).length < 1000000 by have := putL_len t a1 a2; have := delL_le (putL t a1 a2) a1; omega)
  clear htl
  have KD := HX.out w3.drew (more_drew w3)
  go_cut [70] (fun s wx => s = .bool false ∧ Hid (More w3 wx))
  case first =>
    as_aux_lemma =>
      by_cases hab : a1 = b1
      · have tab : (a1 != b1) = false := by simp [hab]
        clear hab
        go_quiet (fail)
        go_wp2_with fail
        go_meet
        case rel => exact ⟨rfl, Lib.hid (more_drewN _ _)⟩
      · have HAB := Lib.hid hab
        have tab : (a1 != b1) = true := by simpa using hab
        clear hab
        go_region_held3 (fun W => W.cell? ⟨w.heap.size, 0, none⟩ = some (.int .i64 a1) ∧ W.cell? ⟨w.heap.size, 1, none⟩ = some (.int .i64 a2) ∧ W.cell? ⟨w.heap.size + 1, 0, none⟩ = some (.int .i64 b1) ∧ W.cell? ⟨w.heap.size + 1, 1, none⟩ = some (.int .i64 b2) ∧ W.cell? ⟨TB, 0, none⟩ = some (.slice ta t.length tc)) (first | with_reducible exact KD | exact KD | with_reducible exact K11 | with_reducible exact K12 | with_reducible exact K13 | with_reducible exact K14 | with_reducible exact K15 | with_reducible exact K16 | with_reducible exact K17 | with_reducible exact K18 | with_reducible exact K19 | with_reducible exact K20) (first | (go_at_call 43; refine (equal_tv (putL (delL t a1) b1 b2) (delL (putL t b1 b2) a1) _ _ _ HLp6.out HLd8.out (HT17.out.more (more_trans Hm18.out Hm19.out)) HT19.out).mono ?_; rw [decide_eq_true (del_put HA.out HAB.out b2)]; rintro e w4 ⟨hm, rfl⟩; have HM20 := Lib.hid (more_trans HM19.out hm); have K20 := HX.out w4 HM20.out; have Hm20 := Lib.hid hm; clear hm) | (go_at_call 40; refine (del_tab (putL t b1 b2) a1 _ _ HLp3.out (asc_put HA.out _ _) HT18.out).mono ?_; rintro e w19 ⟨hm, v19, rfl, ht⟩; obtain ⟨q19, c19, rfl⟩ := ht.shape; have HT19 := Lib.hid ht; clear ht; have HM19 := Lib.hid (more_trans HM18.out hm); have K19 := HX.out w19 HM19.out; have Hm19 := Lib.hid hm; clear hm) | (go_at_call 44; refine (put_tab t b1 b2 _ _ HLt.out HA.out (HT3.out.more HM17.out)).mono ?_; rintro e w18 ⟨hm, v18, rfl, ht⟩; obtain ⟨q18, c18, rfl⟩ := ht.shape; have HT18 := Lib.hid ht; clear ht; have HM18 := Lib.hid (more_trans HM17.out hm); have K18 := HX.out w18 HM18.out; have Hm18 := Lib.hid hm; clear hm) | (go_at_call 44; refine (put_tab (delL t a1) b1 b2 _ _ HLd5.out (asc_del HA.out _) HT16.out).mono ?_; rintro e w17 ⟨hm, v17, rfl, ht⟩; obtain ⟨q17, c17, rfl⟩ := ht.shape; have HT17 := Lib.hid ht; clear ht; have HM17 := Lib.hid (more_trans HM16.out hm); have K17 := HX.out w17 HM17.out; have Hm17 := Lib.hid hm; clear hm) | (go_at_call 40; refine (del_tab t a1 _ _ HLt.out HA.out (HT3.out.more HM15.out)).mono ?_; rintro e w16 ⟨hm, v16, rfl, ht⟩; obtain ⟨q16, c16, rfl⟩ := ht.shape; have HT16 := Lib.hid ht; clear ht; have HM16 := Lib.hid (more_trans HM15.out hm); have K16 := HX.out w16 HM16.out; have Hm16 := Lib.hid hm; clear hm) | (go_at_call 43; refine (equal_tv (putL (putL t a1 a2) b1 b2) (putL (putL t b1 b2) a1 a2) _ _ _ HLp2.out HLp4.out (HT12.out.more (more_trans Hm13.out Hm14.out)) HT14.out).mono ?_; rw [decide_eq_true (put_comm HA.out HAB.out a2 b2)]; rintro e w15 ⟨hm, rfl⟩; have HM15 := Lib.hid (more_trans HM14.out hm); have K15 := HX.out w15 HM15.out; have Hm15 := Lib.hid hm; clear hm) | (go_at_call 44; refine (put_tab (putL t b1 b2) a1 a2 _ _ HLp3.out (asc_put HA.out _ _) HT13.out).mono ?_; rintro e w14 ⟨hm, v14, rfl, ht⟩; obtain ⟨q14, c14, rfl⟩ := ht.shape; have HT14 := Lib.hid ht; clear ht; have HM14 := Lib.hid (more_trans HM13.out hm); have K14 := HX.out w14 HM14.out; have Hm14 := Lib.hid hm; clear hm) | (go_at_call 44; refine (put_tab t b1 b2 _ _ HLt.out HA.out (HT3.out.more HM12.out)).mono ?_; rintro e w13 ⟨hm, v13, rfl, ht⟩; obtain ⟨q13, c13, rfl⟩ := ht.shape; have HT13 := Lib.hid ht; clear ht; have HM13 := Lib.hid (more_trans HM12.out hm); have K13 := HX.out w13 HM13.out; have Hm13 := Lib.hid hm; clear hm) | (go_at_call 44; refine (put_tab (putL t a1 a2) b1 b2 _ _ HLp1.out (asc_put HA.out _ _) HT11.out).mono ?_; rintro e w12 ⟨hm, v12, rfl, ht⟩; obtain ⟨q12, c12, rfl⟩ := ht.shape; have HT12 := Lib.hid ht; clear ht; have HM12 := Lib.hid (more_trans HM11.out hm); have K12 := HX.out w12 HM12.out; have Hm12 := Lib.hid hm; clear hm) | (go_at_call 44; refine (put_tab t a1 a2 _ _ HLt.out HA.out (HT3.out.more (more_drew w3))).mono ?_; rintro e w11 ⟨hm, v11, rfl, ht⟩; obtain ⟨q11, c11, rfl⟩ := ht.shape; have HT11 := Lib.hid ht; clear ht; have HM11 := Lib.hid (more_trans (more_drew w3) hm); have K11 := HX.out w11 HM11.out; have Hm11 := Lib.hid hm; clear hm))
        go_wp2_with fail
        go_meet
        case rel => exact ⟨rfl, HM20⟩
  case rest =>
    obtain ⟨rfl, HMC⟩ := hcut
    clear KD K3
    have KC := HX.out wc HMC.out
    have HTC := Lib.hid (HT3.out.more HMC.out)
    have HMw := Lib.hid (more_trans HM3.out HMC.out)
    clear HM3 HT3 HLp2 HLp3 HLp4 HLp6 HLd8
    go_wp2_with fail
    refine (get_tv t a1 _ wc HLt.out HA.out HTC.out).mono ?_
    rintro e w5 ⟨hm5, rfl⟩
    have K5 := HX.out w5 (more_trans HMC.out hm5)
    have HM5 := Lib.hid hm5; clear hm5 KC
    obtain ⟨og, hog⟩ : ∃ og, getL t a1 = og := ⟨_, rfl⟩
    have HOG := Lib.hid hog
    rw [hog]
    clear hog
    cases og with
    | some gv =>
      go_wp2_with fail
      refine (put_tab t a1 a2 _ w5 HLt.out HA.out (HTC.out.more HM5.out)).mono ?_
      rintro e w6 ⟨hm6, uv, rfl, hu6⟩
      obtain ⟨ua, uc, rfl⟩ := hu6.shape
      have hcU : (w6.alloc (.cells #[.slice ua (putL t a1 a2).length uc] 54)).cell? ⟨w6.heap.size, 0, none⟩ = some (.slice ua (putL t a1 a2).length uc) := by go_simp
      have hm7 : More w6 (w6.alloc (.cells #[.slice ua (putL t a1 a2).length uc] 54)) := more_of ((Below.refl _ w6).alloc (Nat.le_refl _) _)
      have HQ := Lib.hid (And.intro hm6 (And.intro hm7 (And.intro hcU hu6)))
      clear hm6 hm7 hcU hu6
      have K6 := HX.out _ (more_trans HMC.out (more_trans HM5.out (more_trans HQ.out.1 HQ.out.2.1)))
      clear K5
      go_wp2_with fail
      generalize w6.alloc (.cells #[.slice ua (putL t a1 a2).length uc] 54) = w7 at *
      generalize w6.heap.size = UB at *
      obtain ⟨hm6, hm7, hcU, hu6⟩ := HQ.out
      have HM7 := Lib.hid (more_trans hm6 hm7)
      have HX7 := Lib.hid (show ∀ W, More w7 W → W.cell? ⟨w.heap.size, 0, none⟩ = some (.int .i64 a1) ∧ W.cell? ⟨w.heap.size, 1, none⟩ = some (.int .i64 a2) ∧ W.cell? ⟨TB, 0, none⟩ = some (.slice ta t.length tc) ∧ W.cell? ⟨UB, 0, none⟩ = some (.slice ua (putL t a1 a2).length uc) from fun W hm => by
        have h1 := HX.out W (more_trans HMC.out (more_trans HM5.out (more_trans HM7.out hm)))
        exact ⟨h1.1, h1.2.1, h1.2.2.2.2, hm.cell hcU⟩)
      have HT7 := Lib.hid (HTC.out.more (more_trans HM5.out HM7.out))
      have HU7 := Lib.hid (hu6.more hm7)
      clear HQ hm6 hm7 hcU hu6 K6
      have K7 := HX7.out w7 (World.grownBy.refl _ _)
      clear HX
      have KD7 := HX7.out w7.drew (more_drew w7)
      have HLpu := Lib.hid (show (putL (putL t a1 a2) a1 gv).length < 1000000 by rw [put_back HA.out HOG.out]; exact HLt.out)
      have HLpd := Lib.hid (show (putL (delL t a1) a1 gv).length < 1000000 by rw [del_back HA.out HOG.out]; exact HLt.out)
      go_region_held3 (fun W => W.cell? ⟨w.heap.size, 0, none⟩ = some (.int .i64 a1) ∧ W.cell? ⟨w.heap.size, 1, none⟩ = some (.int .i64 a2) ∧ W.cell? ⟨TB, 0, none⟩ = some (.slice ta t.length tc) ∧ W.cell? ⟨UB, 0, none⟩ = some (.slice ua (putL t a1 a2).length uc)) (first | with_reducible exact KD7 | exact KD7 | with_reducible exact K31 | with_reducible exact K32 | with_reducible exact K33 | with_reducible exact K34 | with_reducible exact K35) (first | (go_at_call 43; refine (equal_tv (putL (delL t a1) a1 gv) t _ _ _ HLpd.out HLt.out HT34.out (HT7.out.more HM34.out)).mono ?_; rw [decide_eq_true (del_back HA.out HOG.out)]; rintro e w9 ⟨hm, rfl⟩; have HM35 := Lib.hid (more_trans HM34.out hm); have K35 := HX7.out w9 HM35.out; have Hm35 := Lib.hid hm; clear hm) | (go_at_call 44; refine (put_tab (delL t a1) a1 gv _ _ HLd5.out (asc_del HA.out _) HT33.out).mono ?_; rintro e w34 ⟨hm, v34, rfl, ht⟩; obtain ⟨q34, c34, rfl⟩ := ht.shape; have HT34 := Lib.hid ht; clear ht; have HM34 := Lib.hid (more_trans HM33.out hm); have K34 := HX7.out w34 HM34.out; have Hm34 := Lib.hid hm; clear hm) | (go_at_call 40; refine (del_tab t a1 _ _ HLt.out HA.out (HT7.out.more HM32.out)).mono ?_; rintro e w33 ⟨hm, v33, rfl, ht⟩; obtain ⟨q33, c33, rfl⟩ := ht.shape; have HT33 := Lib.hid ht; clear ht; have HM33 := Lib.hid (more_trans HM32.out hm); have K33 := HX7.out w33 HM33.out; have Hm33 := Lib.hid hm; clear hm) | (go_at_call 43; refine (equal_tv (putL (putL t a1 a2) a1 gv) t _ _ _ HLpu.out HLt.out HT31.out (HT7.out.more HM31.out)).mono ?_; rw [decide_eq_true (put_back HA.out HOG.out a2)]; rintro e w32 ⟨hm, rfl⟩; have HM32 := Lib.hid (more_trans HM31.out hm); have K32 := HX7.out w32 HM32.out; have Hm32 := Lib.hid hm; clear hm) | (go_at_call 44; refine (put_tab (putL t a1 a2) a1 gv _ _ HLp1.out (asc_put HA.out _ _) (HU7.out.more (more_drew w7))).mono ?_; rintro e w31 ⟨hm, v31, rfl, ht⟩; obtain ⟨q31, c31, rfl⟩ := ht.shape; have HT31 := Lib.hid ht; clear ht; have HM31 := Lib.hid (more_trans (more_drew w7) hm); have K31 := HX7.out w31 HM31.out; have Hm31 := Lib.hid hm; clear hm))
      go_wp2_with fail
      go_ret
      exact ⟨rfl, (more_trans HMw.out (more_trans HM5.out (more_trans HM7.out HM35.out))).below⟩
    | none =>
      go_wp2_with fail
      refine (put_tab t a1 a2 _ w5 HLt.out HA.out (HTC.out.more HM5.out)).mono ?_
      rintro e w6 ⟨hm6, uv, rfl, hu6⟩
      obtain ⟨ua, uc, rfl⟩ := hu6.shape
      have hcU : (w6.alloc (.cells #[.slice ua (putL t a1 a2).length uc] 54)).cell? ⟨w6.heap.size, 0, none⟩ = some (.slice ua (putL t a1 a2).length uc) := by go_simp
      have hm7 : More w6 (w6.alloc (.cells #[.slice ua (putL t a1 a2).length uc] 54)) := more_of ((Below.refl _ w6).alloc (Nat.le_refl _) _)
      have HQ := Lib.hid (And.intro hm6 (And.intro hm7 (And.intro hcU hu6)))
      clear hm6 hm7 hcU hu6
      have K6 := HX.out _ (more_trans HMC.out (more_trans HM5.out (more_trans HQ.out.1 HQ.out.2.1)))
      clear K5
      go_wp2_with fail
      generalize w6.alloc (.cells #[.slice ua (putL t a1 a2).length uc] 54) = w7 at *
      generalize w6.heap.size = UB at *
      obtain ⟨hm6, hm7, hcU, hu6⟩ := HQ.out
      have HM7 := Lib.hid (more_trans hm6 hm7)
      have HX7 := Lib.hid (show ∀ W, More w7 W → W.cell? ⟨w.heap.size, 0, none⟩ = some (.int .i64 a1) ∧ W.cell? ⟨w.heap.size, 1, none⟩ = some (.int .i64 a2) ∧ W.cell? ⟨TB, 0, none⟩ = some (.slice ta t.length tc) ∧ W.cell? ⟨UB, 0, none⟩ = some (.slice ua (putL t a1 a2).length uc) from fun W hm => by
        have h1 := HX.out W (more_trans HMC.out (more_trans HM5.out (more_trans HM7.out hm)))
        exact ⟨h1.1, h1.2.1, h1.2.2.2.2, hm.cell hcU⟩)
      have HT7 := Lib.hid (HTC.out.more (more_trans HM5.out HM7.out))
      have HU7 := Lib.hid (hu6.more hm7)
      clear HQ hm6 hm7 hcU hu6 K6
      have K7 := HX7.out w7 (World.grownBy.refl _ _)
      clear HX
      refine (get_tv (putL t a1 a2) a1 _ w7 HLp1.out (asc_put HA.out _ _) HU7.out).mono ?_
      rw [show getL (putL t a1 a2) a1 = some a2 by rw [get_put HA.out, if_pos rfl]]
      rintro e w8 ⟨hm8, rfl⟩
      have HM8 := Lib.hid (more_trans HM7.out hm8)
      have HX8 := Lib.hid (show ∀ W, More w8 W → W.cell? ⟨w.heap.size, 0, none⟩ = some (.int .i64 a1) ∧ W.cell? ⟨w.heap.size, 1, none⟩ = some (.int .i64 a2) ∧ W.cell? ⟨TB, 0, none⟩ = some (.slice ta t.length tc) ∧ W.cell? ⟨UB, 0, none⟩ = some (.slice ua (putL t a1 a2).length uc) from fun W hm => HX7.out W (more_trans hm8 hm))
      have HT8 := Lib.hid (HT7.out.more hm8)
      have HU8 := Lib.hid (HU7.out.more hm8)
      clear hm8 HX7 HT7 HU7 K7
      have K8 := HX8.out w8 (World.grownBy.refl _ _)
      go_wp2_with fail
      have KD8 := HX8.out w8.drew (more_drew w8)
      have htl := HLt.out
      have hlen := Lib.hid (show ((putL t a1 a2).length : Int) = (t.length : Int) + 1 by have := put_longer HOG.out a2; omega)
      have hwr : IntKind.i64.wrap ((t.length : Int) + 1) = (t.length : Int) + 1 := IntWalk.i64_in _ (by omega)
      have hqq : (((t.length : Int) + 1) == ((t.length : Int) + 1)) = true := by simp
      have ha2 : (a2 == a2) = true := by simp
      go_region_held3 (fun W => W.cell? ⟨w.heap.size, 0, none⟩ = some (.int .i64 a1) ∧ W.cell? ⟨w.heap.size, 1, none⟩ = some (.int .i64 a2) ∧ W.cell? ⟨TB, 0, none⟩ = some (.slice ta t.length tc) ∧ W.cell? ⟨UB, 0, none⟩ = some (.slice ua (putL t a1 a2).length uc)) (first | with_reducible exact KD8 | exact KD8 | with_reducible exact K41 | with_reducible exact K42 | with_reducible exact K43 | with_reducible exact K44) (first | (go_at_call 33; refine (len_tv t _ _ (HT8.out.more HM43.out)).mono ?_; rintro e w9 ⟨hm, rfl⟩; have HM44 := Lib.hid (more_trans HM43.out hm); have K44 := HX8.out w9 HM44.out; have Hm44 := Lib.hid hm; clear hm) | (go_at_call 33; refine (len_tv (putL t a1 a2) _ _ (HU8.out.more HM42.out)).mono ?_; rw [hlen.out]; rintro e w43 ⟨hm, rfl⟩; have HM43 := Lib.hid (more_trans HM42.out hm); have K43 := HX8.out w43 HM43.out; have Hm43 := Lib.hid hm; clear hm) | (go_at_call 43; refine (equal_tv (delL (putL t a1 a2) a1) t _ _ _ HLdu.out HLt.out HT41.out (HT8.out.more HM41.out)).mono ?_; rw [decide_eq_true (put_gone HA.out HOG.out a2)]; rintro e w42 ⟨hm, rfl⟩; have HM42 := Lib.hid (more_trans HM41.out hm); have K42 := HX8.out w42 HM42.out; have Hm42 := Lib.hid hm; clear hm) | (go_at_call 40; refine (del_tab (putL t a1 a2) a1 _ _ HLp1.out (asc_put HA.out _ _) (HU8.out.more (more_drew w8))).mono ?_; rintro e w41 ⟨hm, v41, rfl, ht⟩; obtain ⟨q41, c41, rfl⟩ := ht.shape; have HT41 := Lib.hid ht; clear ht; have HM41 := Lib.hid (more_trans (more_drew w8) hm); have K41 := HX8.out w41 HM41.out; have Hm41 := Lib.hid hm; clear hm))
      go_wp2_with fail
      go_ret
      exact ⟨rfl, (more_trans HMw.out (more_trans HM5.out (more_trans HM8.out HM44.out))).below⟩
end Go.Proofs.Ytekhoanjpnjaeaa

