/- The walk of RankDegrees (3). -/
import Derived.Test.YtemeppfikpafbaaAwk
import Derived.Test.YtemeppfikpafbaaOpenR
namespace Go.Proofs.Ytemeppfikpafbaa
open Go.RowKit
set_option maxRecDepth 100000 in
set_option maxHeartbeats 4000000 in
theorem rankDegrees_walk (l0 : List Cau) (v : Value) (w : World) (h : InL w l0 v) : Calls Try.prog 3 #[v] w fun e w' => e = .returned (.bool true) ∧ Below w.heap.size w w' := by
  have HI := Lib.hid h; clear h
  have HAW := Lib.hid (awake_any w)
  go_enter Try.func3, Try.ntmps3
  go_wp2_with fail
  refine HAW.out.mono ?_
  rintro e w1 ⟨rfl, hm1⟩
  have HM1 := Lib.hid hm1
  clear hm1 HAW
  go_wp2_with fail
  refine (few_any l0 _ w1 HI.out.len HI.out.each (HI.out.row.more HM1.out)).mono ?_
  rintro e w2 ⟨⟨v2, rfl, hc2⟩, hb2⟩
  have HOK := Lib.hid (fewL_ok HI.out.ok)
  have HLN := Lib.hid (fewL_len l0)
  have HKL := Lib.hid (fewL_keys l0)
  have HC2 := Lib.hid hc2
  have HM2 := Lib.hid (more_trans HM1.out (more_of hb2))
  clear hc2 hb2 HI HM1
  generalize fewL l0 = L at *
  obtain ⟨a2, cap2, rfl, _⟩ := HC2.out.shape
  go_wp2_with fail
  refine (causes_any L _ w2 (by have := HLN.out; omega) HC2.out).mono ?_
  rintro e w3 ⟨⟨v3, rfl, hc3⟩, hb3⟩
  have HC3 := Lib.hid hc3
  have HB3 := Lib.hid (more_of hb3)
  have HM3 := Lib.hid (more_trans HM2.out (more_of hb3))
  clear hc3 hb3
  obtain ⟨a3, cap3, rfl, _⟩ := HC3.out.shape
  have hln : L.length ≤ 8 := HLN.out
  go_wp2_with fail
  go_loopw [12] (fun i wr => ∃ j : Nat, j ≤ L.length ∧ i = .int .i64 j ∧ Hid (More w3 wr)) (fun i _ => L.length - (intOf i).toNat)
  case atStart => exact ⟨0, Nat.zero_le _, rfl, Lib.hid (World.grownBy.refl _ _)⟩
  case round =>
    obtain ⟨j, hj, rfl, HM⟩ := hrel
    by_cases hlt : j < L.length
    · obtain ⟨b, off, ua, uc, ha, hc, rfl, g0, g1, hcu, hch⟩ := (HC3.out.more HM.out).at hlt
      obtain ⟨b', off', ua', uc', ha', hc', rfl, e0, e1, hcu', hch'⟩ := (HC2.out.more (more_trans HB3.out HM.out)).at hlt
      have HOC := Lib.hid (HOK.out _ (List.getElem_mem hlt))
      generalize L[j] = c at *
      have HD := Lib.hid (fun W (hW : More wr W) => degree_any anyB anyB c _ _ W HOC.out (hcu.below hW.below) (hch.below hW.below))
      have HS := Lib.hid (fun W (hW : More wr W) => size24_any c _ _ W HOC.out (hcu'.below hW.below) (hch'.below hW.below))
      have HG := Lib.hid (fun W => degree23_any c.size W (by have := Cau.size_le HOC.out; omega))
      have hnr := fun W => run_neR (degR c.size) (degR c.size) W
      rw [decide_eq_true rfl] at hnr
      unfold rA at HD HG
      generalize (degR c.size).1 = p at *
      generalize (degR c.size).2 = q at *
      generalize (c.size : Nat) = sz at *
      generalize c.undo.length = nu at *
      generalize c.hold.length = nh at *
      clear hcu hch hcu' hch'
      have hb1 := cell_lt g0
      have hb2 := cell_lt e0
      go_upto_region 7 with (fail)
      have HX := Lib.hid (alloc_last wr (.cells #[.slice ua nu uc, .slice ha nh hc] 30))
      have HMO := Lib.hid (more_alloc wr (.cells #[.slice ua nu uc, .slice ha nh hc] 30))
      have HK := Lib.hid (show ∀ W, More (wr.alloc (.cells #[.slice ua nu uc, .slice ha nh hc] 30)) W → W.cell? ⟨wr.heap.size, 0, none⟩ = some (.slice ua nu uc) ∧ W.cell? ⟨wr.heap.size, 1, none⟩ = some (.slice ha nh hc) ∧ W.cell? ⟨b', off' + j * 2, none⟩ = some (.slice ua' nu uc') ∧ W.cell? ⟨b', off' + j * 2 + 1, none⟩ = some (.slice ha' nh hc') from fun W h =>
        ⟨h.cell (cell_of_blk HX.out rfl), h.cell (cell_of_blk HX.out rfl), (more_trans HMO.out h).cell e0, (more_trans HMO.out h).cell e1⟩)
      clear g0 g1 e0 e1 hb1 hb2
      generalize wr.alloc (.cells #[.slice ua nu uc, .slice ha nh hc] 30) = w4 at *
      generalize wr.heap.size = XB at *
      have HL := Lib.hid (more_drew w4)
      obtain ⟨k0, k1, k2, k3⟩ := HK.out _ HL.out
      have hj1 : (j : Int) < (L.length : Int) := by omega
      have hj0 : (0 : Int) ≤ (j : Int) := by omega
      go_region_held3 (fun W => W.cell? ⟨XB, 0, none⟩ = some (.slice ua nu uc) ∧ W.cell? ⟨XB, 1, none⟩ = some (.slice ha nh hc) ∧ W.cell? ⟨b', off' + j * 2, none⟩ = some (.slice ua' nu uc') ∧ W.cell? ⟨b', off' + j * 2 + 1, none⟩ = some (.slice ha' nh hc')) (with_reducible exact HK.out _ HL.out)
        (first
          | (go_at_call 22; refine (HD.out _ (more_trans HMO.out HL.out)).mono ?_; rintro e w7 ⟨rfl, hm7⟩; have HL := Lib.hid (more_trans HL.out hm7); clear hm7)
          | (go_at_call 24; refine (HS.out _ (more_trans HMO.out HL.out)).mono ?_; rintro e w7 ⟨rfl, hm7⟩; have HL := Lib.hid (more_trans HL.out hm7); clear hm7)
          | (go_at_call 23; refine (HG.out _).mono ?_; rintro e w7 ⟨rfl, hm7⟩; have HL := Lib.hid (more_trans HL.out hm7); clear hm7))
      all_goals
        go_wp2_with fail
        go_roundw
        case rel => exact ⟨j + 1, by omega, by go_num, Lib.hid (more_trans HM.out (more_trans HMO.out HL.out))⟩
        case measure => simp [intOf]; omega
    · have HC2r := Lib.hid (HC2.out.more (more_trans HB3.out HM.out))
      obtain rfl : j = L.length := by omega
      clear hlt hj
      go_wp2_with fail
      refine (causes_any L _ wr (by omega) HC2r.out).mono ?_
      rintro e w5 ⟨⟨v5, rfl, hc5⟩, hb5⟩
      have HC5 := Lib.hid hc5
      have HM5 := Lib.hid (more_of hb5)
      clear hc5 hb5
      go_wp2_with fail
      refine (degrees_any L _ w5 (by omega) HOK.out HC5.out).mono ?_
      rintro e w6 ⟨s, sv, his, rfl, ho, hb6⟩
      have HIS := Lib.hid his
      have HSR := Lib.hid ((Row.of_owns ho).mono (S' := anyB) (fun _ _ => trivial) (fun _ _ _ _ h => h))
      have HM6 := Lib.hid (more_of hb6)
      clear ho hb6 his
      go_wp2_with fail
      refine (refDeg_any L _ w6 (by omega) (by have := HKL.out; omega) HOK.out (HC2r.out.more (more_trans HM5.out HM6.out))).mono ?_
      rintro e w7 ⟨u7, rfl, ho7, hb7⟩
      have HE := Lib.hid (show s.map shN = refDeg L from HIS.out.unique (refDeg_is L))
      have HSL := Lib.hid (show s.length = (refDeg L).length by rw [← HE.out, List.length_map])
      have HUR := Lib.hid ((Row.of_owns ho7).mono (S' := anyB) (fun _ _ => trivial) (fun _ _ _ _ h => h))
      have HM7 := Lib.hid (more_of hb7)
      have HRL := Lib.hid (show s.length ≤ 100000 by
        rw [HSL.out]
        unfold refDeg
        rw [shF_len]
        have := sortS_le ltKb (keysL L)
        have := HKL.out
        omega)
      clear ho7 hb7
      go_wp2_with fail
      refine (same_any s _ _ w7 HRL.out (HSR.out.below HM7.out.below) (by rw [HE.out, HSL.out]; exact HUR.out)).mono ?_
      rintro e w8 ⟨rfl, hm8⟩
      have HM8 := Lib.hid (more_trans HM3.out (more_trans HM.out (more_trans HM5.out (more_trans HM6.out (more_trans HM7.out hm8)))))
      clear hm8
      go_wp2_with fail
      go_ret
      exact ⟨rfl, HM8.out.below⟩
end Go.Proofs.Ytemeppfikpafbaa
