/- How many causes rank.Best (34) returns. -/
import Derived.Test.YtemeppfikpafbaaBest
namespace Go.Proofs.Ytemeppfikpafbaa
open Go.RowKit
def bestL (l : List Cau) : List Cau := l.filter fun c => decide (c.size = jointN l [])
set_option maxRecDepth 100000 in
set_option maxHeartbeats 4000000 in
theorem best_any (l : List Cau) (v : Value) (w : World) (hl : l.length ≤ 400) (hok : ∀ c ∈ l, c.Ok) (h : CRow w l v) :
    Calls Try.prog 34 #[v] w fun e w' => (∃ a cap, e = .returned (.slice a (bestL l).length cap)) ∧ More w w' := by
  obtain ⟨a, cap, rfl, _⟩ := h.shape
  have HR := Lib.hid h; clear h
  have HOK := Lib.hid hok; clear hok
  obtain ⟨i0, hi0, hz0, hz1, hz2⟩ := info_parts info30
  have HJ := Lib.hid (joint28_any l [] _ (.slice none 0 0) w hl (by simp) HOK.out (by simp) HR.out (Row.nil _ _ _ _ _))
  have HBL := Lib.hid (show bestL l = l.filter fun c => decide (c.size = jointN l []) from rfl)
  rw [rA_eq] at HJ
  generalize jointN l [] = J at *
  have HPQ := Lib.hid (show degR J = ((degR J).1, (degR J).2) from rfl)
  generalize hp : (degR J).1 = p at *
  generalize hq : (degR J).2 = q at *
  clear hp hq
  go_enter Try.func34, Try.ntmps34
  go_wp2_with fail
  refine HJ.out.mono ?_
  rintro e w1 ⟨rfl, hm1⟩
  have HM1 := Lib.hid hm1
  clear hm1 HJ
  go_wp2_with fail
  have HG := Lib.hid (alloc_last w1 (.cells #[.int .i64 p, .int .i64 q] 32))
  have HM2 := Lib.hid (more_trans HM1.out (more_alloc w1 (.cells #[.int .i64 p, .int .i64 q] 32)))
  generalize w1.alloc (.cells #[.int .i64 p, .int .i64 q] 32) = w2 at *
  generalize w1.heap.size = GB at *
  obtain ⟨M, HMM⟩ : ∃ M, Hid (M = w2.heap.size) := ⟨_, Lib.hid rfl⟩
  go_loopw [4, 11] (fun v i wr => ∃ (j n : Nat) (xs : List Value) (oa : Option Addr) (oc : Nat), j ≤ l.length ∧ i = .int .i64 j ∧ v = .slice oa n oc ∧ Hid (n = ((l.take j).filter fun c => decide (c.size = J)).length) ∧ Hid (n ≤ j) ∧ Hid (Below M w2 wr) ∧ Hid (wr.ownsRow M 30 2 v n xs)) (fun _ i _ => l.length - (intOf i).toNat)
  case atStart => exact ⟨0, 0, [], none, 0, Nat.zero_le _, rfl, rfl, Lib.hid (by simp), Lib.hid (Nat.le_refl _), Lib.hid (Below.refl _ _), Lib.hid (World.ownsRow_nil _ _ _ _)⟩
  case round =>
    obtain ⟨j, n, xs, oa, oc, hj, rfl, rfl, HN, HNJ, HB, HO⟩ := hrel
    have HBW := Lib.hid (show Below w2.heap.size w2 wr by rw [← HMM.out]; exact HB.out)
    have HMW := Lib.hid (show M ≤ wr.heap.size by rw [HMM.out]; exact HBW.out.size)
    by_cases hlt : j < l.length
    · obtain ⟨b, off, ua, uc, ha, hc, rfl, g0, g1, hcu, hch, hn1, hn2⟩ := (HR.out.more (more_trans HM2.out (more_of HBW.out))).at' hlt
      have HOC := Lib.hid (HOK.out _ (List.getElem_mem hlt))
      have HT := Lib.hid (show ((l.take (j + 1)).filter fun c => decide (c.size = J)).length = ((l.take j).filter fun c => decide (c.size = J)).length + if l[j].size = J then 1 else 0 by
        rw [List.take_succ_eq_append_getElem hlt, List.filter_append, List.length_append]
        by_cases e : l[j].size = J <;> simp [e])
      generalize l[j] = c at *
      have HG1 := Lib.hid ((HBW.out.block GB (blk_lt HG.out)).trans HG.out)
      have HD := Lib.hid (fun W (hW : More wr W) => degree_any anyB anyB c _ _ W HOC.out (hcu.below hW.below) (hch.below hW.below))
      have HCK := Lib.hid (fun W (hW : More wr W) => cloneK_any c.undo _ W (by have := HOC.out.lu; omega) (hcu.below hW.below) (fun n' c' e => by cases e; exact hn1 rfl))
      have HCM := Lib.hid (fun W (hW : More wr W) => cloneM_any c.hold _ W (by have := HOC.out.lh; omega) (hch.below hW.below) (fun n' c' e => by cases e; exact hn2 rfl))
      have hnr := fun W => run_eqR (degR c.size) (degR J) W
      rw [show decide (degR c.size = degR J) = decide (c.size = J) from decide_eq_decide.2 ⟨degR_inj, fun e => by rw [e]⟩, HPQ.out] at hnr
      rw [rA_eq] at HD
      generalize (degR c.size).1 = p' at *
      generalize (degR c.size).2 = q' at *
      obtain ⟨z, HZ⟩ : ∃ z, Hid (decide (c.size = J) = z) := ⟨_, Lib.hid rfl⟩
      rw [HZ.out] at hnr
      generalize c.undo.length = nu at *
      generalize c.hold.length = nh at *
      clear hcu hch hn1 hn2
      have hbg := cell_lt g0
      have HLX := Lib.hid (alloc_last wr (.cells #[.slice ua nu uc, .slice ha nh hc] 30))
      have HMO := Lib.hid (more_alloc wr (.cells #[.slice ua nu uc, .slice ha nh hc] 30))
      go_upto_region 6 with (fail)
      have HB1 := Lib.hid (HB.out.alloc HMW.out (.cells #[.slice ua nu uc, .slice ha nh hc] 30))
      have HO1 := Lib.hid (owns_keep HO.out (fun z hz => HMO.out.block ((owns_shape HO.out).choose_spec.choose_spec.2 z hz).2))
      have HOX := Lib.hid (fun z hz => ((owns_shape HO.out).choose_spec.choose_spec.2 z hz).2)
      have HOM := Lib.hid (fun z hz => ((owns_shape HO.out).choose_spec.choose_spec.2 z hz).1)
      have HMW3 := Lib.hid (Nat.le_trans HMW.out HMO.out.size)
      have HG2 := Lib.hid ((HMO.out.block (blk_lt HG1.out)).trans HG1.out)
      clear g0 g1 hbg
      generalize wr.alloc (.cells #[.slice ua nu uc, .slice ha nh hc] 30) = w3 at *
      generalize wr.heap.size = XB at *
      have HK := Lib.hid (show ∀ W, More w3 W → W.cell? ⟨XB, 0, none⟩ = some (.slice ua nu uc) ∧ W.cell? ⟨XB, 1, none⟩ = some (.slice ha nh hc) ∧ W.cell? ⟨GB, 0, none⟩ = some (.int .i64 p) ∧ W.cell? ⟨GB, 1, none⟩ = some (.int .i64 q) from fun W h =>
        ⟨h.cell (cell_of_blk HLX.out rfl), h.cell (cell_of_blk HLX.out rfl), h.cell (cell_of_blk HG2.out rfl), h.cell (cell_of_blk HG2.out rfl)⟩)
      have HL := Lib.hid (more_drew w3)
      obtain ⟨k0, k1, k2, k3⟩ := HK.out _ HL.out
      go_region_held3 (fun W => W.cell? ⟨XB, 0, none⟩ = some (.slice ua nu uc) ∧ W.cell? ⟨XB, 1, none⟩ = some (.slice ha nh hc) ∧ W.cell? ⟨GB, 0, none⟩ = some (.int .i64 p) ∧ W.cell? ⟨GB, 1, none⟩ = some (.int .i64 q)) (with_reducible exact HK.out _ HL.out)
        (first | (go_at_call 22; refine (HD.out _ (more_trans HMO.out HL.out)).mono ?_; rintro e w5 ⟨rfl, hm5⟩; have HL := Lib.hid (more_trans HL.out hm5); clear hm5))
      all_goals
        have HB5 := Lib.hid (HB1.out.trans (HL.out.below.mono HMW3.out))
        have HO5 := Lib.hid (owns_keep HO1.out (fun z hz => HL.out.block ((owns_shape HO1.out).choose_spec.choose_spec.2 z hz).2))
        have HLL := Lib.hid HL.out
        have HM5 := Lib.hid (Nat.le_trans HMW3.out HL.out.size)
        clear k0 k1 k2 k3 hnr
        cases z with
        | false =>
          go_wp2_with fail
          go_roundw
          case rel => exact ⟨j + 1, n, xs, oa, oc, by omega, by go_num, rfl, Lib.hid (by rw [HT.out, if_neg (by have := HZ.out; simpa using this), Nat.add_zero]; exact HN.out), Lib.hid (by have := HNJ.out; omega), HB5, HO5⟩
          case measure => simp [intOf]; omega
        | true =>
          have hm1 : n + 1 ≤ maxLen := by unfold maxLen; have := HNJ.out; omega
          have hm2 : (n + 1) * 48 ≤ 140737488355328 := by have := HNJ.out; omega
          go_upto_region 7 with (fail)
          rename_i w5 hS
          clear hS
          have HL := Lib.hid (more_trans HLL.out (more_drew w5))
          have HB6 := Lib.hid (show Below M w2 w5.drew from HB5.out.trans (below_drewN w5 1 M))
          have HO6 := Lib.hid (show w5.drew.ownsRow M 30 2 (.slice oa n oc) n xs from HO5.out)
          have HM6 := Lib.hid (show M ≤ w5.drew.heap.size from HM5.out)
          have HS := Lib.hid (show w5.drew.cell? ⟨XB, 0, none⟩ = some (.slice ua nu uc) ∧ w5.drew.cell? ⟨XB, 1, none⟩ = some (.slice ha nh hc) from ⟨(HK.out _ HL.out).1, (HK.out _ HL.out).2.1⟩)
          obtain ⟨k0, k1⟩ := HS.out
          go_region_held3 (fun W => W.cell? ⟨XB, 0, none⟩ = some (.slice ua nu uc) ∧ W.cell? ⟨XB, 1, none⟩ = some (.slice ha nh hc)) (first | (with_reducible exact HS.out) | (with_reducible exact ⟨alloc_cell _ HS.out.1, alloc_cell _ HS.out.2⟩))
            (first
              | (go_at_call 80; refine (HCK.out _ (more_trans HMO.out HL.out)).mono ?_; rintro e w7 ⟨⟨v7, rfl, hr7, _⟩, hb7⟩; have HS := Lib.hid (And.intro (below_cell hb7 HS.out.1) (below_cell hb7 HS.out.2)); have HL := Lib.hid (more_trans HL.out (more_of hb7)); have HB6 := Lib.hid (HB6.out.trans (hb7.mono HM6.out)); have HO6 := Lib.hid (owns_keep HO6.out (fun z hz => (more_of hb7).block ((owns_shape HO6.out).choose_spec.choose_spec.2 z hz).2)); have HM6 := Lib.hid (Nat.le_trans HM6.out hb7.size); obtain ⟨_, _, rfl, _⟩ := hr7.shape; clear hb7 hr7)
              | (go_at_call 81; refine (HCM.out _ (more_trans HMO.out HL.out)).mono ?_; rintro e w7 ⟨⟨v7, rfl, hr7, _⟩, hb7⟩; have HS := Lib.hid (And.intro (below_cell hb7 HS.out.1) (below_cell hb7 HS.out.2)); have HL := Lib.hid (more_trans HL.out (more_of hb7)); have HB6 := Lib.hid (HB6.out.trans (hb7.mono HM6.out)); have HO6 := Lib.hid (owns_keep HO6.out (fun z hz => (more_of hb7).block ((owns_shape HO6.out).choose_spec.choose_spec.2 z hz).2)); have HM6 := Lib.hid (Nat.le_trans HM6.out hb7.size); obtain ⟨_, _, rfl, _⟩ := hr7.shape; clear hb7 hr7)
              | (refine step_append_lies _ (by rfl) _ _ _ (by rfl) M 30 i0 _ 2 48 Try.underlying25 hi0 hz0 hz1 hz2 (by rfl) (by omega) (.slice oa n oc) n xs (by rfl) (owns_keep HO6.out (fun z hz => Below.heap_alloc _ _ _ ((owns_shape HO6.out).choose_spec.choose_spec.2 z hz).2)) ⟨_, 0, none⟩ 1 1 [_, _] (by rfl) (by rfl) (World.news_of_block (cs := #[_, _]) (t := 30) (fr := (0, 0)) (alloc_last _ _)) (by simp [Value.oneCell']) (by omega) hm1 hm2 (by rw [World.size_alloc]; exact Nat.le_succ_of_le HM6.out) _ rfl ?_; intro gg cap6 w8 hown8 hgrow8 hat8 hlt8; have HS := Lib.hid (And.intro (World.grownBy.cell hgrow8 (alloc_cell _ HS.out.1) (fun e => by have := HOX.out XB e.symm; omega)) (World.grownBy.cell hgrow8 (alloc_cell _ HS.out.2) (fun e => by have := HOX.out XB e.symm; omega))); have HB6 := Lib.hid ((HB6.out.alloc HM6.out _).grown hgrow8 (by rw [World.size_alloc]; exact Nat.le_succ_of_le HM6.out) (fun z hz => HOM.out z hz)); have HO8 := Lib.hid hown8; clear hown8 hgrow8 hat8 hlt8))
          all_goals
            clear k0 k1
            go_wp2_with fail
            go_roundw
            case rel => exact ⟨j + 1, n + 1, _, _, _, by omega, by go_num, rfl, Lib.hid (by rw [HT.out, if_pos (by have := HZ.out; simpa using this), HN.out]), Lib.hid (by have := HNJ.out; omega), HB6, HO8⟩
            case measure => simp [intOf]; omega
    · obtain rfl : j = l.length := by omega
      have HE := Lib.hid (show n = (bestL l).length by rw [HBL.out, HN.out, List.take_of_length_le (Nat.le_refl _)])
      go_wp2_with fail
      go_ret
      exact ⟨⟨oa, oc, by rw [← HE.out]; rfl⟩, more_trans HM2.out (more_of HBW.out)⟩
end Go.Proofs.Ytemeppfikpafbaa
