/- The walk of RankBest (3 in the great seat). -/
import Derived.Test.YtemeppfikpafbaaGreatBestE
import Derived.Test.YtemeppfikpafbaaGreatRefB
import Derived.Test.YtemeppfikpafbaaGreatAwk
import Derived.Test.YtemeppfikpafbaaGreatOpenR
namespace Go.Proofs.YtemeppfikpafbaaGreat
open Go.RowKit
theorem few_each (l : List Cau) : ∀ c ∈ fewL l, c.undo.length ≤ 12 ∧ c.hold.length ≤ 12 := by
  intro c hc
  unfold fewL at hc
  obtain ⟨d, _, rfl⟩ := List.mem_map.1 hc
  unfold Cau.cut
  simp only [List.length_take]
  omega
theorem best_idx (l : List Cau) (J : Nat) : (l.filter fun c => decide (c.size = J)) = (idxT l J l.length).map fun i => l[i]! := by
  have h : ∀ j, j ≤ l.length → ((l.take j).filter fun c => decide (c.size = J)) = (idxT l J j).map fun i => l[i]! := by
    intro j
    induction j with
    | zero => intro _; rw [List.take_zero]; rfl
    | succ j ih =>
      intro hj
      have hlt : j < l.length := by omega
      rw [List.take_succ_eq_append_getElem hlt, List.filter_append, ih (by omega), idxT_push l J j hlt, List.map_append]
      congr 1
      rw [List.filter_cons]
      by_cases e : l[j].size = J
      · rw [if_pos e, if_pos (decide_eq_true e), List.map_singleton, getElem!_pos l j hlt]; rfl
      · rw [if_neg e, if_neg (fun h => e (of_decide_eq_true h))]; rfl
  have := h l.length (Nat.le_refl _)
  rw [List.take_of_length_le (Nat.le_refl _)] at this
  exact this
theorem idxT_lt {l : List Cau} {J j i : Nat} (h : i ∈ idxT l J j) : i < j := by
  unfold idxT at h
  exact List.mem_range.1 (List.mem_filter.1 h).1
theorem cmpCau_self (c : Cau) : cmpCau c c = 0 := by
  have hK : ∀ l : List K4, firstNZ sgnK l l = 0 := by
    intro l
    induction l with
    | nil => rfl
    | cons x l ih => unfold firstNZ; rw [if_pos ((sgnK_zero x x).2 rfl)]; exact ih
  have hs : ∀ x : M3, sgnM x x = 0 := by
    intro x
    have h1 : ¬ cmpM3 x x < 0 := fun e => cmpM_by.irrefl x ((cmpM_by.neg x x).1 e)
    unfold sgnM
    simp [h1]
  have hM : ∀ l : List M3, firstNZ sgnM l l = 0 := by
    intro l
    induction l with
    | nil => rfl
    | cons x l ih => unfold firstNZ; rw [if_pos (hs x)]; exact ih
  unfold cmpCau cmpL
  rw [if_pos rfl, if_pos rfl, hK, hM, if_pos rfl]
set_option maxRecDepth 100000 in
set_option maxHeartbeats 4000000 in
theorem rankBest_walk (l0 : List Cau) (v : Value) (w : World) (h : InL w l0 v) : Calls Tryz.prog 3 #[v] w fun e w' => e = .returned (.bool true) ∧ Below w.heap.size w w' := by
  have HI := Lib.hid h; clear h
  have HAW := Lib.hid (awake_any w)
  go_enter Tryz.func3, Tryz.ntmps3
  go_wp2_with fail
  refine HAW.out.mono ?_
  rintro e w1 ⟨rfl, hm1⟩
  have HM1 := Lib.hid hm1
  clear hm1 HAW
  go_wp2_with fail
  refine (few_any l0 _ w1 HI.out.len HI.out.each (HI.out.row.more HM1.out)).mono ?_
  rintro e w2 ⟨⟨v2, rfl, hc2⟩, hb2⟩
  have HOK := Lib.hid (fewL_ok HI.out.ok)
  have HLN := Lib.hid (fewL_len l0)
  have HEA := Lib.hid (few_each l0)
  have HC2 := Lib.hid hc2
  have HM2 := Lib.hid (more_trans HM1.out (more_of hb2))
  clear hc2 hb2 HI HM1
  generalize fewL l0 = L at *
  obtain ⟨a2, cap2, rfl, _⟩ := HC2.out.shape
  go_wp2_with fail
  refine (causes_any L _ w2 (by have := HLN.out; omega) HC2.out).mono ?_
  rintro e w3 ⟨⟨v3, rfl, hc3⟩, hb3⟩
  have HM3 := Lib.hid (more_of hb3)
  obtain ⟨a3, cap3, rfl, _⟩ := hc3.shape
  have HBE := Lib.hid (best_own L _ w3 (by have := HLN.out; omega) HOK.out HEA.out hc3)
  clear hc3 hb3
  go_wp2_with fail
  refine HBE.out.mono ?_
  rintro e w4 ⟨⟨v4, G, rfl, hG, hA⟩, hb4⟩
  have HM4 := Lib.hid (more_trans HM3.out (more_of hb4))
  have HGL := Lib.hid (show G.map CEl.c = (idxT L (jointN L []) L.length).map (fun i => L[i]!) by rw [hG]; exact best_idx L _)
  have HA := Lib.hid hA
  clear hG hA hb4 HBE
  obtain ⟨a4, cap4, rfl, _⟩ := owns_shape HA.out.own
  have HRB := Lib.hid (refBest_any L _ w4 (by have := HLN.out; omega) HOK.out (HC2.out.more HM4.out))
  have HIX := Lib.hid (fun i hi => idxT_lt (l := L) (J := jointN L []) (j := L.length) (i := i) hi)
  have HIL := Lib.hid (idxT_len L (jointN L []) L.length)
  generalize idxT L (jointN L []) L.length = I at *
  have HLE := Lib.hid (show G.length = I.length by have := congrArg List.length HGL.out; rw [List.length_map, List.length_map] at this; exact this)
  go_wp2_with fail
  refine HRB.out.mono ?_
  rintro e w5 ⟨⟨v5, rfl, ho5⟩, hb5⟩
  have HM5 := Lib.hid (more_of hb5)
  have HRI := Lib.hid (Row.of_owns ho5)
  have HRG := Lib.hid ((Row.of_owns HA.out.own).below hb5)
  have HEN := Lib.hid (fun g hg => CauAt.more (CauS.at (HA.out.ent g hg)) (more_of hb5))
  obtain ⟨a5, cap5, rfl, _⟩ := owns_shape ho5
  clear ho5 hb5 HRB HA
  have HI8 := Lib.hid (show I.length ≤ 8 by have := HIL.out; have := HLN.out; omega)
  rw [HLE.out] at HRG
  rw [HLE.out]
  go_wp2_with fail
  go_loopw [23] (fun i wr => ∃ j : Nat, j ≤ I.length ∧ i = .int .i64 j ∧ Hid (More w5 wr)) (fun i _ => I.length - (intOf i).toNat)
  case atStart => exact ⟨0, Nat.zero_le _, rfl, Lib.hid (World.grownBy.refl _ _)⟩
  case round =>
    obtain ⟨j, hj, rfl, HM⟩ := hrel
    by_cases hlt : j < I.length
    · have hlg : j < G.length := by have := HLE.out; omega
      obtain ⟨b, off, rfl, _, hc⟩ := HRI.out.atC iC_len hlt
      have g0 := HM.out.cell (hc 0 (.int .i64 (I[j] : Nat)) rfl)
      rw [Nat.add_zero, Nat.mul_one] at g0
      clear hc
      have HRG2 := HRG.out
      rw [← HLE.out] at HRG2
      obtain ⟨b', off', rfl, _, hc⟩ := HRG2.atC eC_len hlg
      clear HRG2
      have e0 := HM.out.cell (hc 0 _ rfl)
      have e1 := HM.out.cell (hc 1 _ rfl)
      rw [Nat.add_zero] at e0
      clear hc
      have hk := HIX.out _ (List.getElem_mem hlt)
      have HGC := Lib.hid (show G[j].c = L[I[j]] by
        have := congrArg (fun l => l[j]?) HGL.out
        simp only [List.getElem?_map, List.getElem?_eq_getElem hlg, List.getElem?_eq_getElem hlt, Option.map_some] at this
        rw [Option.some.inj this, getElem!_pos L _ hk])
      have HGE := Lib.hid (CauAt.more (HEN.out _ (List.getElem_mem hlg)) HM.out)
      have HLT := Lib.hid hlt
      have hk2 := hk
      have HKL := Lib.hid hk2
      generalize G[j] = g at *
      generalize hI : I[j] = k at *
      clear hI
      obtain ⟨gc, gua, guc, gha, ghc⟩ := g
      dsimp only at *
      have HCS := Lib.hid (fun W (hW : More wr W) => causes_any L _ W (by have := HLN.out; omega) (HC2.out.more (more_trans HM4.out (more_trans HM5.out (more_trans HM.out hW)))))
      have HK := Lib.hid (show ∀ W, More wr W → W.cell? ⟨b', off' + j * 2, none⟩ = some (.slice gua gc.undo.length guc) ∧ W.cell? ⟨b', off' + j * 2 + 1, none⟩ = some (.slice gha gc.hold.length ghc) from fun W h => ⟨h.cell e0, h.cell e1⟩)
      have HEQ := Lib.hid (fun W (hW : More wr W) ua uc ha hc (h : CauAt W gc (.slice ua gc.undo.length uc) (.slice ha gc.hold.length hc)) => equalCause_any gc gc _ _ _ _ W (CauAt.more HGE.out hW) h)
      rw [show decide (cmpCau gc gc = 0) = true from decide_eq_true (cmpCau_self gc)] at HEQ
      have HLEN := Lib.hid (HEA.out _ (List.getElem_mem hk))
      rw [← HGC.out] at HLEN
      have hbg := cell_lt g0
      go_upto_region 10 with (fail)
      clear g0 hbg e0 e1
      have hj1 : (j : Int) < (I.length : Int) := by omega
      have hk1 : (k : Int) < (L.length : Int) := by omega
      have HL := Lib.hid (more_drew wr)
      obtain ⟨k0, k1⟩ := HK.out _ HL.out
      have hbk := cell_lt k0
      go_region_law (first
          | (go_simp; go_at_call 8; refine (HCS.out _ HL.out).mono ?_; rintro e w7 ⟨⟨v7, rfl, hr7⟩, hb7⟩; obtain ⟨a7, c7, rfl, _⟩ := hr7.shape; obtain ⟨b7, off7, ua7, uc7, ha7, hc7, rfl, x0, x1, hcu7, hch7, hn1, hn2⟩ := hr7.at' hk2; rw [← HGC.out] at x0 x1 hcu7 hch7; have HQ := Lib.hid (show CauAt w7 gc (.slice ua7 gc.undo.length uc7) (.slice ha7 gc.hold.length hc7) from ⟨hcu7, hch7, fun _ _ e => (by cases e; exact hn1 rfl), fun _ _ e => (by cases e; exact hn2 rfl), HLEN.out.1, HLEN.out.2⟩); have HL := Lib.hid (more_trans HL.out (more_of hb7)); have hbx := cell_lt x0; obtain ⟨k0, k1⟩ := HK.out _ HL.out; have hbk := cell_lt k0; clear hb7 hr7 hcu7 hch7 hn1 hn2)
          | (go_simp; go_at_call 10; refine (HEQ.out _ HL.out _ _ _ _ HQ.out).mono ?_; rintro e w9 ⟨rfl, hm9⟩; have HL := Lib.hid (more_trans HL.out hm9); clear hm9))
      all_goals
        have hi8 := HI8.out
        have hlt9 := HLT.out
        go_wp2_with fail
        go_roundw
        case rel => exact ⟨j + 1, by have := HLT.out; omega, by go_num, Lib.hid (more_trans HM.out HL.out)⟩
        case measure => have := HLT.out; simp [intOf]; omega
    · obtain rfl : j = I.length := by omega
      go_wp2_with fail
      go_ret
      exact ⟨rfl, (more_trans HM2.out (more_trans HM4.out (more_trans HM5.out HM.out))).below⟩
end Go.Proofs.YtemeppfikpafbaaGreat
