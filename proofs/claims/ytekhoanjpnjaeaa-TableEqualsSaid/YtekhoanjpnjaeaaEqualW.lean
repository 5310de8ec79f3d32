/- The walk of TableEquals (9). -/
import Derived.Test.YtekhoanjpnjaeaaPlay
import Derived.Test.YtekhoanjpnjaeaaRDiff
import Derived.Test.YtekhoanjpnjaeaaEqT
import Derived.Deep.DeepCutAuto
namespace Go.Proofs.Ytekhoanjpnjaeaa
open Go.RowKit

theorem lasts_asc : ∀ (t : List (Int × Int)), Asc t → lastsL t = t
  | [], _ => rfl
  | [_], _ => rfl
  | x :: y :: r, h => by
    have h1 := (asc_cons.1 h).1 y (by simp)
    have ih := lasts_asc (y :: r) (asc_cons.1 h).2
    simp only [lastsL]
    rw [if_neg (by omega), ih]
theorem srt_asc {t : List (Int × Int)} (h : Asc t) : Srt t := h.imp (fun h => Int.le_of_lt h)
theorem of_self {t : List (Int × Int)} (h : Asc t) : ofL t = t := by
  rw [← lasts_of (srt_asc h) (Stab.refl t), lasts_asc t h]
theorem keyV_get (l : List Int) (j : Nat) (h : j < l.length) : (keyV l)[j]? = some (.int .i64 l[j]) := by
  unfold keyV; rw [List.getElem?_map, List.getElem?_eq_getElem h]; rfl

set_option maxRecDepth 100000 in
set_option maxHeartbeats 4000000 in
theorem equals_walk (hs40 : SortSaid 40) (l : List OpD) (v : Value) (a b : Int) (w : World) (hl : l.length ≤ maxLen) (hok : ∀ o ∈ l, o.ok) (ha0 : 0 ≤ a) (ha1 : a ≤ 255) (hb0 : 0 ≤ b) (hb1 : b ≤ 255) (h : Row (fun _ => True) w 4 l.length v (l.flatMap opC)) :
    Calls Try.prog 9 #[v, .int .u8 a, .int .u8 b] w fun e w' => e = .returned (.bool true) ∧ Below w.heap.size w w' := by
  obtain ⟨va, vc, rfl, hcap⟩ := h.shape
  have HR := Lib.hid h; clear h
  have HG0 := Lib.hid (play_good (l.take 40) (fun o ho => hok o (List.mem_of_mem_take ho)))
  have HGL := Lib.hid (show (playL (l.take 40)).length ≤ 41 by rw [playL_len]; have := List.length_take_le 40 l; omega)
  have HGP := Lib.hid (show 0 < (playL (l.take 40)).length by rw [playL_len]; omega)
  go_enter Try.func9, Try.ntmps9
  go_wp2_with fail
  refine (awake9_any _).mono ?_
  rintro e w1 ⟨rfl, hm1⟩
  have HM1 := Lib.hid hm1; clear hm1
  go_wp2_with fail
  refine (play_any _ l _ w1 hl hok (HR.out.below HM1.out.below)).mono ?_
  rintro e w2 ⟨ga, ca, gw, cw, rfl, hp⟩
  have HP := Lib.hid hp; clear hp
  have HG := Lib.hid (show ∀ t ∈ playL (l.take 40), GoodT 40 t from fun t ht => (HG0.out t ht).mono (List.length_take_le 40 l))
  clear hok hcap hl HG0
  generalize playL (l.take 40) = ts at *
  have hn := HGL.out
  have hpos := HGP.out
  have hz : ((ts.length : Int) == 0) = false := beq_eq_false_iff_ne.2 (by omega)
  have r1 := (⟨a, false, 0, 0⟩ : OpD).at_eq hpos
  have r2 := (⟨b, false, 0, 0⟩ : OpD).at_eq hpos
  have hi := (⟨a, false, 0, 0⟩ : OpD).at_lt hpos
  have hk := (⟨b, false, 0, 0⟩ : OpD).at_lt hpos
  generalize (⟨a, false, 0, 0⟩ : OpD).at ts.length = i at *
  generalize (⟨b, false, 0, 0⟩ : OpD).at ts.length = k at *
  have R1 := Lib.hid (show a % (ts.length : Int) = (i : Int) from r1)
  have R2 := Lib.hid (show b % (ts.length : Int) = (k : Int) from r2)
  clear r1 r2
  go_wp2_with fail
  go_quiet (fail)
  go_wp2_with fail
  obtain ⟨w3, hw3⟩ : ∃ w3 : World, w3 = w2.drewN nq := ⟨_, rfl⟩
  rw [← hw3, R1.out, R2.out]
  have HM3 := Lib.hid (show More w2 w3 by rw [hw3]; exact more_drewN _ _)
  clear hw3
  clear R1 R2
  have HP3 := Lib.hid (HP.out.step HM3.out)
  have hcA := HP3.out.a.cap.1
  have hcW := HP3.out.b.cap.1
  obtain ⟨tv1, cA, tA⟩ := HP3.out.a.cell hi
  obtain ⟨tv2, cB, tB⟩ := HP3.out.a.cell hk
  obtain ⟨tv3, cW, tW⟩ := HP3.out.b.cell hi
  obtain ⟨tv4, cV, tV⟩ := HP3.out.b.cell hk
  obtain ⟨aA, capA, rfl⟩ := tA.shape
  obtain ⟨aB, capB, rfl⟩ := tB.shape
  obtain ⟨aW, capW, rfl⟩ := tW.shape
  obtain ⟨aV, capV, rfl⟩ := tV.shape
  have HTA := Lib.hid (show TV w3 ts[i] _ from TabQ.tv tA.any)
  have HTB := Lib.hid (show TV w3 ts[k] _ from TabQ.tv tB.any)
  have HTW := Lib.hid tW.any.row
  have HTV := Lib.hid tV.any.row
  have HGT := Lib.hid (HG.out _ (List.getElem_mem hi))
  have HGU := Lib.hid (HG.out _ (List.getElem_mem hk))
  clear tA tB tW tV HG
  generalize ts[i] = T at *
  generalize ts[k] = U at *
  have HLT := Lib.hid (show T.length < 1000000 by have := HGT.out.len; omega)
  have HLU := Lib.hid (show U.length < 1000000 by have := HGU.out.len; omega)
  have HLT4 := Lib.hid (show T.length < 4294967296 by have := HLT.out; omega)
  have HLU4 := Lib.hid (show U.length < 4294967296 by have := HLU.out; omega)
  have hbA := cell_lt cA
  have hbW := cell_lt cW
  have HX := Lib.hid (show ∀ W, More w3 W → W.cell? ⟨ga, i, none⟩ = some (.slice aA T.length capA) ∧ W.cell? ⟨ga, k, none⟩ = some (.slice aB U.length capB) ∧ W.cell? ⟨gw, i, none⟩ = some (.slice aW T.length capW) ∧ W.cell? ⟨gw, k, none⟩ = some (.slice aV U.length capV) from fun W hm => ⟨hm.cell cA, hm.cell cB, hm.cell cW, hm.cell cV⟩)
  clear cA cB cW cV
  have K3 := HX.out w3 (World.grownBy.refl _ _)
  have KD := HX.out w3.drew (more_drew w3)
  have b0 : (0 : Int) ≤ (i : Int) := by omega
  have b1 : (i : Int) < (ts.length : Int) := by omega
  have b2 : (0 : Int) ≤ (k : Int) := by omega
  have b3 : (k : Int) < (ts.length : Int) := by omega
  go_region_held3 (fun W => W.cell? ⟨ga, i, none⟩ = some (.slice aA T.length capA) ∧ W.cell? ⟨ga, k, none⟩ = some (.slice aB U.length capB) ∧ W.cell? ⟨gw, i, none⟩ = some (.slice aW T.length capW) ∧ W.cell? ⟨gw, k, none⟩ = some (.slice aV U.length capV)) (first | with_reducible exact KD | exact KD | with_reducible exact K11 | with_reducible exact K12) (first | (go_at_call 42; refine (rdiff_any (fun _ => True) (fun _ => True) T U _ _ _ HLT.out HLU.out HGT.out.asc (HTW.out.below HM11.out.below) (HTV.out.below HM11.out.below)).mono ?_; rw [diff_same HGT.out.asc HGU.out.asc]; rintro e w4 ⟨hm, v12, rfl, ht⟩; obtain ⟨q12, c12, rfl, hcc12⟩ := ht.shape; have HT12 := Lib.hid ht; clear ht; have HM12 := Lib.hid (more_trans HM11.out hm); have K12 := HX.out w4 HM12.out; have Hm12 := Lib.hid hm; clear hm) | (go_at_call 41; refine (diff_tv T U _ _ _ HLT.out HLU.out (HTA.out.more (more_drew w3)) (HTB.out.more (more_drew w3))).mono ?_; rintro e w11 ⟨hm, v11, rfl, ht⟩; obtain ⟨q11, c11, rfl, hcc11⟩ := ht.shape; have HT11 := Lib.hid ht; clear ht; have HM11 := Lib.hid (more_trans (more_drew w3) hm); have K11 := HX.out w11 HM11.out; have Hm11 := Lib.hid hm; clear hm))
  clear KD K11 K12 K3
  have HE := Lib.hid (diff_same HGT.out.asc HGU.out.asc)
  have HNIL := Lib.hid (diff_nil HGT.out.asc HGU.out.asc)
  have HDL := Lib.hid (show (mergeD T U).length < 2000000 by have := mergeD_len T U; have := HLT.out; have := HLU.out; omega)
  have HD1 := Lib.hid (HT11.out.below Hm12.out.below)
  have HD2 := HT12
  clear HT11 HT12
  generalize mergeD T U = D at *
  have hdl := HDL.out
  have tne : ((D.length : Int) != (D.length : Int)) = false := by simp
  go_wp2_with fail
  go_loopw [56] (fun n wr => ∃ j : Nat, j ≤ D.length ∧ n = .int .i64 j ∧ Hid (More w4 wr)) (fun n _ => D.length - (intOf n).toNat)
  case atStart => exact ⟨0, Nat.zero_le _, rfl, Lib.hid (World.grownBy.refl _ _)⟩
  case round =>
    obtain ⟨j, hj, rfl, HMR⟩ := hrel
    by_cases hlt : j < D.length
    · obtain ⟨b1, o1, rfl, _, _, hc1⟩ := HD1.out.at (by omega)
      obtain ⟨b2, o2, rfl, _, _, hc2⟩ := HD2.out.at (by omega)
      have g1 := HMR.out.cell (hc1 _ _ (keyV_get D j hlt))
      have g2 := HMR.out.cell (hc2 _ _ (keyV_get D j hlt))
      clear hc1 hc2
      generalize D[j] = x at *
      have tx : (x != x) = false := by simp
      have p0 : (0 : Int) ≤ (j : Int) := by omega
      have p1 : (j : Int) < (D.length : Int) := by omega
      have hbg1 := cell_lt g1
      have hbg2 := cell_lt g2
      go_wp2_with fail
      go_quiet (fail)
      go_wp2_with fail
      go_roundw
      case rel => exact ⟨j + 1, by omega, by go_num, Lib.hid (more_trans HMR.out (more_drewN _ _))⟩
      case measure => simp [intOf]; omega
    · go_wp2_with fail
      have HX5 := Lib.hid (show ∀ W, More wr W → W.cell? ⟨ga, i, none⟩ = some (.slice aA T.length capA) ∧ W.cell? ⟨ga, k, none⟩ = some (.slice aB U.length capB) ∧ W.cell? ⟨gw, i, none⟩ = some (.slice aW T.length capW) ∧ W.cell? ⟨gw, k, none⟩ = some (.slice aV U.length capV) from fun W hm => HX.out W (more_trans HM12.out (more_trans HMR.out hm)))
      have KD5 := HX5.out wr.drew (more_drew wr)
      have HA5 := Lib.hid (HTA.out.more (more_trans HM12.out HMR.out))
      have HB5 := Lib.hid (HTB.out.more (more_trans HM12.out HMR.out))
      have HW5 := Lib.hid (HTW.out.below (more_trans HM12.out HMR.out).below)
      have HV5 := Lib.hid (HTV.out.below (more_trans HM12.out HMR.out).below)
      have HOS := Lib.hid (of_self HGT.out.asc)
      have HLO := Lib.hid (show (ofL T).length < 1000000 by rw [HOS.out]; exact HLT.out)
      obtain ⟨q, hq⟩ : ∃ q, decide (T = U) = q := ⟨_, rfl⟩
      have HQ := Lib.hid hq
      have tq : ((D.length : Int) == 0) = q := by
        rw [← hq]
        by_cases e : T = U
        · rw [decide_eq_true e]; have := HNIL.out.2 e; rw [this]; rfl
        · rw [decide_eq_false e]; refine beq_eq_false_iff_ne.2 fun h => e (HNIL.out.1 (List.eq_nil_of_length_eq_zero (by omega)))
      clear hq HNIL HX hlt
      go_region_held3 (fun W => W.cell? ⟨ga, i, none⟩ = some (.slice aA T.length capA) ∧ W.cell? ⟨ga, k, none⟩ = some (.slice aB U.length capB) ∧ W.cell? ⟨gw, i, none⟩ = some (.slice aW T.length capW) ∧ W.cell? ⟨gw, k, none⟩ = some (.slice aV U.length capV)) (first | with_reducible exact KD5 | exact KD5 | with_reducible exact K21 | with_reducible exact K22 | with_reducible exact K23 | with_reducible exact K24 | with_reducible exact K25) (first | (go_at_call 43; refine (equal_tv T U _ _ _ HLT.out HLU.out (HA5.out.more HM24.out) (HB5.out.more HM24.out)).mono ?_; rw [HQ.out]; rintro e w9 ⟨hm, rfl⟩; have HM25 := Lib.hid (more_trans HM24.out hm); have K25 := HX5.out w9 HM25.out; have Hm25 := Lib.hid hm; clear hm) | (go_at_call 43; refine (equal_tv T (ofL T) _ _ _ HLT.out HLO.out (HA5.out.more HM23.out) HT23.out).mono ?_; rw [decide_eq_true HOS.out.symm]; rintro e w24 ⟨hm, rfl⟩; have HM24 := Lib.hid (more_trans HM23.out hm); have K24 := HX5.out w24 HM24.out; have Hm24 := Lib.hid hm; clear hm) | (go_at_call 38; refine (of_tv hs40 (fun _ => True) T _ _ HGT.out.len HLT.out (HW5.out.below HM22.out.below)).mono ?_; rintro e w23 ⟨hm, v23, rfl, ht⟩; obtain ⟨q23, c23, rfl⟩ := ht.shape; have HT23 := Lib.hid ht; clear ht; have HM23 := Lib.hid (more_trans HM22.out hm); have K23 := HX5.out w23 HM23.out; have Hm23 := Lib.hid hm; clear hm) | (go_at_call 34; refine (rsame_any (fun _ => True) (fun _ => True) T U _ _ _ HLT4.out HLU4.out (HW5.out.below HM21.out.below) (HV5.out.below HM21.out.below)).mono ?_; rw [HQ.out]; rintro e w22 ⟨rfl, n22, hn22⟩; have hm : More w21 w22 := (by (subst hn22; exact more_drewN _ _)); clear hn22; have HM22 := Lib.hid (more_trans HM21.out hm); have K22 := HX5.out w22 HM22.out; have Hm22 := Lib.hid hm; clear hm) | (go_at_call 43; refine (equal_tv T U _ _ _ HLT.out HLU.out (HA5.out.more (more_drew wr)) (HB5.out.more (more_drew wr))).mono ?_; rw [HQ.out]; rintro e w21 ⟨hm, rfl⟩; have HM21 := Lib.hid (more_trans (more_drew wr) hm); have K21 := HX5.out w21 HM21.out; have Hm21 := Lib.hid hm; clear hm))
      go_wp2_with fail
      go_ret
      exact ⟨rfl, (more_trans HM1.out (more_trans HP.out.more (more_trans HM3.out (more_trans HM12.out (more_trans HMR.out HM25.out))))).below⟩
end Go.Proofs.Ytekhoanjpnjaeaa

