/- The causes that rank.Best (34) returns. -/
import Derived.Test.YtemeppfikpafbaaGreatCauS
import Derived.Test.YtemeppfikpafbaaGreatCho2
import Derived.Test.YtemeppfikpafbaaGreatJoint
import Derived.Test.YtemeppfikpafbaaGreatCaus
import Derived.Deep.RegionHeld3
namespace Go.Proofs.YtemeppfikpafbaaGreat
open Go.RowKit
theorem rB_eq (n : Nat) : rA (degR n) = .agg #[.int .i64 (degR n).1, .int .i64 (degR n).2] := rfl
/-- An element of a row of causes. -/
structure CEl where
  c : Cau
  ua : Option Addr
  uc : Nat
  ha : Option Addr
  hc : Nat
def eC (e : CEl) : List Value := [.slice e.ua e.c.undo.length e.uc, .slice e.ha e.c.hold.length e.hc]
theorem eC_len (e : CEl) : (eC e).length = 2 := rfl
def ClS (S : Nat → Prop) (w : World) (e : CEl) : Prop := CauS S w e.c (.slice e.ua e.c.undo.length e.uc) (.slice e.ha e.c.hold.length e.hc)
structure AllE (N : Nat) (w : World) (v : Value) (F : List CEl) : Prop where
  own : w.ownsRow N 34 2 v F.length (flatC eC F)
  ent : ∀ f ∈ F, ClS (fun b => v.ownBlock ≠ some b) w f
theorem AllE.nil (N : Nat) (w : World) : AllE N w (.slice none 0 0) [] := ⟨World.ownsRow_nil _ _ _ _, fun f h => by simp at h⟩
theorem AllE.more {N : Nat} {w w' : World} {v : Value} {F : List CEl} (h : AllE N w v F) (hm : More w w') : AllE N w' v F :=
  ⟨owns_keep h.own (fun z hz => hm.block ((owns_shape h.own).choose_spec.choose_spec.2 z hz).2), fun f hf => CauS.mono (h.ent f hf) (fun _ hb _ => hb) (fun b _ hl => hm.block hl)⟩
theorem AllE.push {N : Nat} {w w' : World} {v v' : Value} {F : List CEl} (h : AllE N w v F) {f : CEl} (hf : ClS (fun b => v.ownBlock ≠ some b) w f)
    (hown : w'.ownsRow N 34 2 v' (F.length + 1) (flatC eC F ++ eC f)) (hg : w.grownBy w' v.ownBlock) (hv : ∀ z, v'.ownBlock = some z → v.ownBlock = some z ∨ w.heap.size ≤ z) : AllE N w' v' (F ++ [f]) := by
  have key : ∀ x, ClS (fun b => v.ownBlock ≠ some b) w x → ClS (fun b => v'.ownBlock ≠ some b) w' x := fun x hx => CauS.mono hx (fun b hb hl e => by
    rcases hv b e with h1 | h1
    · exact hb h1
    · omega) (fun b hb hl => hg.block b hl (fun e => hb e.symm))
  refine ⟨by rw [List.length_append, List.length_singleton, flatC_push]; exact hown, fun x hx => ?_⟩
  rcases List.mem_append.1 hx with h1 | h1
  · exact key x (h.ent x h1)
  · rw [List.mem_singleton] at h1; subst h1; exact key x hf
def bestL (l : List Cau) : List Cau := l.filter fun c => decide (c.size = jointN l [])
set_option maxRecDepth 100000 in
set_option maxHeartbeats 4000000 in
theorem best_own (l : List Cau) (v : Value) (w : World) (hl : l.length ≤ 400) (hok : ∀ c ∈ l, c.Ok) (h12 : ∀ c ∈ l, c.undo.length ≤ 12 ∧ c.hold.length ≤ 12) (h : CRow w l v) :
    Calls Tryz.prog 7 #[v] w fun e w' => (∃ v' L, e = .returned v' ∧ L.map CEl.c = bestL l ∧ AllE w.heap.size w' v' L) ∧ Below w.heap.size w w' := by
  obtain ⟨a, cap, rfl, _⟩ := h.shape
  have HR := Lib.hid h; clear h
  have HOK := Lib.hid hok; clear hok
  have H12 := Lib.hid h12; clear h12
  obtain ⟨i0, hi0, hz0, hz1, hz2⟩ := info_parts info30
  have HJ := Lib.hid (joint28_any l [] _ (.slice none 0 0) w hl (by simp) HOK.out (by simp) HR.out (Row.nil _ _ _ _ _))
  have HBL := Lib.hid (show bestL l = l.filter fun c => decide (c.size = jointN l []) from rfl)
  rw [rB_eq] at HJ
  generalize jointN l [] = J at *
  have HPQ := Lib.hid (show degR J = ((degR J).1, (degR J).2) from rfl)
  generalize hp : (degR J).1 = p at *
  generalize hq : (degR J).2 = q at *
  clear hp hq
  go_enter Tryz.func7, Tryz.ntmps7
  go_wp2_with fail
  refine HJ.out.mono ?_
  rintro e w1 ⟨rfl, hm1⟩
  have HM1 := Lib.hid hm1
  clear hm1 HJ
  go_wp2_with fail
  have HG := Lib.hid (alloc_last w1 (.cells #[.int .i64 p, .int .i64 q] 61))
  have HM2 := Lib.hid (more_trans HM1.out (more_alloc w1 (.cells #[.int .i64 p, .int .i64 q] 61)))
  generalize w1.alloc (.cells #[.int .i64 p, .int .i64 q] 61) = w2 at *
  generalize w1.heap.size = GB at *
  obtain ⟨M, HMM⟩ : ∃ M, Hid (M = w2.heap.size) := ⟨_, Lib.hid rfl⟩
  go_loopw [4, 11] (fun v i wr => ∃ (j : Nat) (L : List CEl), j ≤ l.length ∧ i = .int .i64 j ∧ Hid (L.map CEl.c = (l.take j).filter fun c => decide (c.size = J)) ∧ Hid (L.length ≤ j) ∧ Hid (Below M w2 wr) ∧ Hid (AllE M wr v L)) (fun _ i _ => l.length - (intOf i).toNat)
  case atStart => exact ⟨0, [], Nat.zero_le _, rfl, Lib.hid (by simp), Lib.hid (Nat.le_refl _), Lib.hid (Below.refl _ _), Lib.hid (AllE.nil _ _)⟩
  case round =>
    obtain ⟨j, L, hj, rfl, HN, HNJ, HB, HO⟩ := hrel
    obtain ⟨oa, oc, rfl, _⟩ := owns_shape HO.out.own
    have HBW := Lib.hid (show Below w2.heap.size w2 wr by rw [← HMM.out]; exact HB.out)
    have HMW := Lib.hid (show M ≤ wr.heap.size by rw [HMM.out]; exact HBW.out.size)
    by_cases hlt : j < l.length
    · obtain ⟨b, off, ua, uc, ha, hc, rfl, g0, g1, hcu, hch, hn1, hn2⟩ := (HR.out.more (more_trans HM2.out (more_of HBW.out))).at' hlt
      have HOC := Lib.hid (HOK.out _ (List.getElem_mem hlt))
      have HOL := Lib.hid (H12.out _ (List.getElem_mem hlt))
      have HT := Lib.hid (show ((l.take (j + 1)).filter fun c => decide (c.size = J)) = ((l.take j).filter fun c => decide (c.size = J)) ++ if l[j].size = J then [l[j]] else [] by
        rw [List.take_succ_eq_append_getElem hlt, List.filter_append]
        congr 1
        by_cases e : l[j].size = J
        · rw [if_pos e, List.filter_cons, if_pos (decide_eq_true e)]; rfl
        · rw [if_neg e, List.filter_cons, if_neg (fun h => e (of_decide_eq_true h))]; rfl)
      have HLT := Lib.hid hlt
      generalize l[j] = c at *
      have HG1 := Lib.hid ((HBW.out.block GB (blk_lt HG.out)).trans HG.out)
      have HD := Lib.hid (fun W (hW : More wr W) => degree_any anyB anyB c _ _ W HOC.out (hcu.below hW.below) (hch.below hW.below))
      have HCK := Lib.hid (fun W (hW : More wr W) => cloneK_own c.undo _ W (by have := HOC.out.lu; omega) (hcu.below hW.below) (fun n' c' e => by cases e; exact hn1 rfl))
      have HCM := Lib.hid (fun W (hW : More wr W) => cloneM_own c.hold _ W (by have := HOC.out.lh; omega) (hch.below hW.below) (fun n' c' e => by cases e; exact hn2 rfl))
      have hnr := fun W => run_eqR (degR c.size) (degR J) W
      rw [show decide (degR c.size = degR J) = decide (c.size = J) from decide_eq_decide.2 ⟨degR_inj, fun e => by rw [e]⟩, HPQ.out] at hnr
      rw [rB_eq] at HD
      generalize (degR c.size).1 = p' at *
      generalize (degR c.size).2 = q' at *
      obtain ⟨z, HZ⟩ : ∃ z, Hid (decide (c.size = J) = z) := ⟨_, Lib.hid rfl⟩
      rw [HZ.out] at hnr
      have HCE := Lib.hid (show ∀ (S : Nat → Prop) (W : World) ua uc ha hc, Row S W 4 c.undo.length (.slice ua c.undo.length uc) (flatC kC c.undo) → Row S W 3 c.hold.length (.slice ha c.hold.length hc) (flatC mC c.hold) → NilA (.slice ua c.undo.length uc) → NilA (.slice ha c.hold.length hc) → ClS S W ⟨c, ua, uc, ha, hc⟩ from fun S W ua uc ha hc h1 h2 h3 h4 => ⟨h1, h2, h3, h4, HOL.out.1, HOL.out.2⟩)
      have HEC := Lib.hid (show ∀ ua uc ha hc, eC ⟨c, ua, uc, ha, hc⟩ = [.slice ua c.undo.length uc, .slice ha c.hold.length hc] from fun _ _ _ _ => rfl)
      generalize flatC kC c.undo = X1 at *
      generalize flatC mC c.hold = X2 at *
      generalize c.undo.length = nu at *
      generalize c.hold.length = nh at *
      clear hcu hch hn1 hn2
      have hbg := cell_lt g0
      have HLX := Lib.hid (alloc_last wr (.cells #[.slice ua nu uc, .slice ha nh hc] 34))
      have HMO := Lib.hid (more_alloc wr (.cells #[.slice ua nu uc, .slice ha nh hc] 34))
      go_upto_region 6 with (fail)
      have HB1 := Lib.hid (HB.out.alloc HMW.out (.cells #[.slice ua nu uc, .slice ha nh hc] 34))
      have HO1 := Lib.hid (HO.out.more HMO.out)
      have HOX := Lib.hid (fun z hz => ((owns_shape HO.out.own).choose_spec.choose_spec.2 z hz).2)
      have HOM := Lib.hid (fun z hz => ((owns_shape HO.out.own).choose_spec.choose_spec.2 z hz).1)
      have HMW3 := Lib.hid (Nat.le_trans HMW.out HMO.out.size)
      have HG2 := Lib.hid ((HMO.out.block (blk_lt HG1.out)).trans HG1.out)
      clear g0 g1 hbg
      generalize wr.alloc (.cells #[.slice ua nu uc, .slice ha nh hc] 34) = w3 at *
      generalize wr.heap.size = XB at *
      have HK := Lib.hid (show ∀ W, More w3 W → W.cell? ⟨XB, 0, none⟩ = some (.slice ua nu uc) ∧ W.cell? ⟨XB, 1, none⟩ = some (.slice ha nh hc) ∧ W.cell? ⟨GB, 0, none⟩ = some (.int .i64 p) ∧ W.cell? ⟨GB, 1, none⟩ = some (.int .i64 q) from fun W h =>
        ⟨h.cell (cell_of_blk HLX.out rfl), h.cell (cell_of_blk HLX.out rfl), h.cell (cell_of_blk HG2.out rfl), h.cell (cell_of_blk HG2.out rfl)⟩)
      have HXW := Lib.hid (blk_lt HLX.out)
      have HL := Lib.hid (more_drew w3)
      obtain ⟨k0, k1, k2, k3⟩ := HK.out _ HL.out
      go_region_held3 (fun W => W.cell? ⟨XB, 0, none⟩ = some (.slice ua nu uc) ∧ W.cell? ⟨XB, 1, none⟩ = some (.slice ha nh hc) ∧ W.cell? ⟨GB, 0, none⟩ = some (.int .i64 p) ∧ W.cell? ⟨GB, 1, none⟩ = some (.int .i64 q)) (with_reducible exact HK.out _ HL.out)
        (first | (go_at_call 21; refine (HD.out _ (more_trans HMO.out HL.out)).mono ?_; rintro e w5 ⟨rfl, hm5⟩; have HL := Lib.hid (more_trans HL.out hm5); clear hm5))
      all_goals
        have HB5 := Lib.hid (HB1.out.trans (HL.out.below.mono HMW3.out))
        have HO5 := Lib.hid (HO1.out.more HL.out)
        have HLL := Lib.hid HL.out
        have HM5 := Lib.hid (Nat.le_trans HMW3.out HL.out.size)
        clear k0 k1 k2 k3 hnr
        cases z with
        | false =>
          have HN2 := Lib.hid (show L.map CEl.c = (l.take (j + 1)).filter fun c => decide (c.size = J) by rw [HT.out, if_neg (by have := HZ.out; simpa using this), List.append_nil]; exact HN.out)
          go_wp2_with fail
          go_roundw
          case rel => exact ⟨j + 1, L, by have := HLT.out; omega, by go_num, HN2, Lib.hid (by have := HNJ.out; omega), HB5, HO5⟩
          case measure => have := HLT.out; simp [intOf]; omega
        | true =>
          have HNS := Lib.hid (show ∀ f : CEl, f.c = c → (L ++ [f]).map CEl.c = (l.take (j + 1)).filter fun c => decide (c.size = J) from fun f hf => by rw [HT.out, if_pos (by have := HZ.out; simpa using this), List.map_append, HN.out]; simp [hf])
          have HLS := Lib.hid (show ∀ f : CEl, (L ++ [f]).length = L.length + 1 from fun f => by simp)
          have hm1 : L.length + 1 ≤ maxLen := by unfold maxLen; have := HNJ.out; omega
          have hm2 : (L.length + 1) * 48 ≤ 140737488355328 := by have := HNJ.out; omega
          go_upto_region 7 with (fail)
          rename_i w5 hS
          clear hS
          have HL := Lib.hid (more_trans HLL.out (more_drew w5))
          have HB6 := Lib.hid (show Below M w2 w5.drew from HB5.out.trans (below_drewN w5 1 M))
          have HO6 := Lib.hid (HO5.out.more (more_drew w5))
          have HM6 := Lib.hid (show M ≤ w5.drew.heap.size from HM5.out)
          have HS := Lib.hid (show w5.drew.cell? ⟨XB, 0, none⟩ = some (.slice ua nu uc) ∧ w5.drew.cell? ⟨XB, 1, none⟩ = some (.slice ha nh hc) from ⟨(HK.out _ HL.out).1, (HK.out _ HL.out).2.1⟩)
          obtain ⟨k0, k1⟩ := HS.out
          go_region_held3 (fun W => W.cell? ⟨XB, 0, none⟩ = some (.slice ua nu uc) ∧ W.cell? ⟨XB, 1, none⟩ = some (.slice ha nh hc)) (first | (with_reducible exact HS.out) | (with_reducible exact ⟨alloc_cell _ HS.out.1, alloc_cell _ HS.out.2⟩))
            (first
              | (go_at_call 22; refine (HCK.out _ (more_trans HMO.out HL.out)).mono ?_; rintro e w7 ⟨⟨v7, rfl, hr7⟩, hb7⟩; have HNU := Lib.hid (owns_nil hr7); obtain ⟨ua7, uc7, rfl, _⟩ := owns_shape hr7; have HRU := Lib.hid ((Row.of_owns hr7).mono (S' := fun b => (Value.slice oa L.length oc).ownBlock ≠ some b) (fun b hb e => by have h1 := HOX.out b e; have h2 := HL.out.size; have h3 := HXW.out; omega) (fun _ _ _ _ h => h)); have HS := Lib.hid (And.intro (below_cell hb7 HS.out.1) (below_cell hb7 HS.out.2)); have HL := Lib.hid (more_trans HL.out (more_of hb7)); have HB6 := Lib.hid (HB6.out.trans (hb7.mono HM6.out)); have HO6 := Lib.hid (HO6.out.more (more_of hb7)); have HM6 := Lib.hid (Nat.le_trans HM6.out hb7.size); clear hb7 hr7)
              | (go_at_call 23; refine (HCM.out _ (more_trans HMO.out HL.out)).mono ?_; rintro e w7 ⟨⟨v7, rfl, hr7⟩, hb7⟩; have HNH := Lib.hid (owns_nil hr7); obtain ⟨ha7, hc7, rfl, _⟩ := owns_shape hr7; have HRH := Lib.hid ((Row.of_owns hr7).mono (S' := fun b => (Value.slice oa L.length oc).ownBlock ≠ some b) (fun b hb e => by have h1 := HOX.out b e; have h2 := HL.out.size; have h3 := HXW.out; omega) (fun _ _ _ _ h => h)); have HRU := Lib.hid (HRU.out.below hb7); have HS := Lib.hid (And.intro (below_cell hb7 HS.out.1) (below_cell hb7 HS.out.2)); have HL := Lib.hid (more_trans HL.out (more_of hb7)); have HB6 := Lib.hid (HB6.out.trans (hb7.mono HM6.out)); have HO6 := Lib.hid (HO6.out.more (more_of hb7)); have HM6 := Lib.hid (Nat.le_trans HM6.out hb7.size); have HCL := Lib.hid (HCE.out _ _ _ _ _ _ HRU.out HRH.out HNU.out HNH.out); clear hb7 hr7)
              | (refine step_append_lies _ (by rfl) _ _ _ (by rfl) M 34 i0 _ 2 48 Tryz.underlying25 hi0 hz0 hz1 hz2 (by rfl) (by omega) (.slice oa L.length oc) L.length (flatC eC L) (by rfl) (owns_keep HO6.out.own (fun z hz => Below.heap_alloc _ _ _ ((owns_shape HO6.out.own).choose_spec.choose_spec.2 z hz).2)) ⟨_, 0, none⟩ 1 1 [_, _] (by rfl) (by rfl) (World.news_of_block (cs := #[_, _]) (t := 34) (fr := (0, 0)) (alloc_last _ _)) (by simp [Value.oneCell']) (by omega) hm1 hm2 (by rw [World.size_alloc]; exact Nat.le_succ_of_le HM6.out) _ rfl ?_; intro gg cap6 w8 hown8 hgrow8 hat8 hlt8; have HA8 := Lib.hid ((HO6.out.more (more_alloc _ _)).push (f := ⟨c, ua7, uc7, ha7, hc7⟩) (CauS.mono HCL.out (fun b hb _ => hb) (fun b _ hl => Below.heap_alloc _ _ b hl)) (by rw [HEC.out]; exact hown8) hgrow8 (by intro z hz; obtain rfl : gg = z := (by simpa [Value.ownBlock] using hz); exact hat8.imp id (fun h => (by rw [h]; simp)))); have HB6 := Lib.hid ((HB6.out.alloc HM6.out _).grown hgrow8 (by rw [World.size_alloc]; exact Nat.le_succ_of_le HM6.out) (fun z hz => HOM.out z hz)); have HN9 := Lib.hid (HNS.out ⟨c, ua7, uc7, ha7, hc7⟩ rfl); have HL9 := Lib.hid (HLS.out ⟨c, ua7, uc7, ha7, hc7⟩); have HS := Lib.hid (And.intro (World.grownBy.cell hgrow8 (alloc_cell _ HS.out.1) (fun e => by have := HOX.out XB e.symm; omega)) (World.grownBy.cell hgrow8 (alloc_cell _ HS.out.2) (fun e => by have := HOX.out XB e.symm; omega))); clear hown8 hgrow8 hat8 hlt8))
          all_goals
            clear k0 k1
            go_wp2_with fail
            go_roundw
            case rel => exact ⟨j + 1, L ++ [⟨c, ua7, uc7, ha7, hc7⟩], by have := HLT.out; omega, by go_num, HN9, Lib.hid (by rw [HL9.out]; have := HNJ.out; omega), HB6, HA8⟩
            case measure => have := HLT.out; simp [intOf]; omega
    · obtain rfl : j = l.length := by omega
      have HE := Lib.hid (show L.map CEl.c = bestL l by rw [HBL.out, HN.out, List.take_of_length_le (Nat.le_refl _)])
      have HZZ := Lib.hid (show w.heap.size ≤ M by rw [HMM.out]; exact HM2.out.size)
      go_wp2_with fail
      go_ret
      exact ⟨⟨_, L, rfl, HE.out, owns_base HO.out.own HZZ.out, HO.out.ent⟩, (more_trans HM2.out (more_of HBW.out)).below⟩
end Go.Proofs.YtemeppfikpafbaaGreat
