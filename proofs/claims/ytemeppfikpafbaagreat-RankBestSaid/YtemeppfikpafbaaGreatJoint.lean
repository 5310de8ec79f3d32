/- rank.Joint (28). -/
import Derived.Test.YtemeppfikpafbaaGreatContK
namespace Go.Proofs.YtemeppfikpafbaaGreat
open Go.RowKit Go.Maps
/-- The boxes of rank.Joint in a round. -/
structure JBox (W : World) (RB BB CB HB MB : Nat) (p q : Int) (vu vh : Value) : Prop where
  r : W.heap[RB]? = some (.cells #[.int .i64 0, .int .i64 0] 61)
  b : W.heap[BB]? = some (.cells #[.int .i64 p, .int .i64 q] 61)
  c : W.heap[CB]? = some (.cells #[vu, vh] 34)
  h : W.heap[HB]? = some (.cells #[.map (some MB)] 101)
theorem JBox.more {W W' : World} {RB BB CB HB MB : Nat} {p q : Int} {vu vh : Value} (h : JBox W RB BB CB HB MB p q vu vh) (m : More W W') : JBox W' RB BB CB HB MB p q vu vh :=
  ⟨(m.block (blk_lt h.r)).trans h.r, (m.block (blk_lt h.b)).trans h.b, (m.block (blk_lt h.c)).trans h.c, (m.block (blk_lt h.h)).trans h.h⟩
theorem JBox.grown {W W' : World} {RB BB CB HB MB M : Nat} {p q : Int} {vu vh : Value} (h : JBox W RB BB CB HB MB p q vu vh) (m : W.grownBy W' (some M)) (h1 : RB ≠ M) (h2 : BB ≠ M) (h3 : CB ≠ M) (h4 : HB ≠ M) : JBox W' RB BB CB HB MB p q vu vh :=
  ⟨(m.block _ (blk_lt h.r) (fun e => h1 (Option.some.inj e))).trans h.r, (m.block _ (blk_lt h.b) (fun e => h2 (Option.some.inj e))).trans h.b, (m.block _ (blk_lt h.c) (fun e => h3 (Option.some.inj e))).trans h.c, (m.block _ (blk_lt h.h) (fun e => h4 (Option.some.inj e))).trans h.h⟩
theorem allIn_any (ks u : List K4) : (!ks.any (fun x => !decide (x ∈ u))) = allIn ks u := by
  unfold allIn
  rw [List.not_any_eq_all_not]
  simp
theorem jstep_pos {ks : List K4} {B : Nat} {c : Cau} (h : allIn ks c.undo = true) (hp : 0 < cmpR (degR c.size) (degR B)) : jstep ks B c = c.size := by
  rw [cmpR_pos] at hp
  unfold jstep
  rw [if_pos ⟨(allIn_iff _ _).1 h, hp⟩]
theorem jstep_not {ks : List K4} {B : Nat} {c : Cau} (hp : ¬ 0 < cmpR (degR c.size) (degR B)) : jstep ks B c = B := by
  rw [cmpR_pos] at hp
  unfold jstep
  rw [if_neg (fun h => hp h.2)]
theorem jstep_out {ks : List K4} {B : Nat} {c : Cau} (h : allIn ks c.undo = false) : jstep ks B c = B := by
  unfold jstep
  rw [if_neg (fun e => by rw [(allIn_iff _ _).2 e.1] at h; cases h)]
set_option maxRecDepth 100000 in
set_option maxHeartbeats 4000000 in
theorem joint28_any (l : List Cau) (ks : List K4) (v u : Value) (w : World) (hl : l.length ≤ 400) (hks : ks.length ≤ 4000) (hok : ∀ c ∈ l, c.Ok) (hkok : ∀ x ∈ ks, x.Ok) (h : CRow w l v) (hu : Row anyB w 4 ks.length u (flatC kC ks)) :
    Calls Tryz.prog 20 #[v, u] w fun e w' => e = .returned (rA (degR (jointN l ks))) ∧ More w w' := by
  obtain ⟨a, cap, rfl, _⟩ := h.shape
  obtain ⟨ka, kcap, rfl, _⟩ := hu.shape
  have HR := Lib.hid h; clear h
  have HKS := Lib.hid hu; clear hu
  have HOK := Lib.hid hok; clear hok
  have HKO := Lib.hid hkok; clear hkok
  have HJL := Lib.hid (fun (m : List Cau) (hm : ∀ c ∈ m, c ∈ l) => jointN_le (fun c hc => HOK.out c (hm c hc)) ks)
  obtain ⟨N, hN⟩ : ∃ N, N = w.heap.size := ⟨_, rfl⟩
  have HN := Lib.hid hN
  go_enter Tryz.func20, Tryz.ntmps20
  go_wp2_with fail
  refine (zero_any _).mono ?_
  rintro e w1 ⟨rfl, hl1⟩
  have HR1 := Lib.hid ((hl1.1.block (by simp)).trans (alloc_last w (.cells #[.int .i64 0, .int .i64 0] 61)))
  have HM1 := Lib.hid (more_trans (Lay.alloc w (.cells #[.int .i64 0, .int .i64 0] 61)).1 hl1.1)
  have hs1 : w.heap.size < w1.heap.size := blk_lt HR1.out
  clear hl1
  go_wp2_with fail
  have HM2 := Lib.hid (more_trans HM1.out (Lay.alloc w1 (.cells #[.int .i64 0, .int .i64 1] 61)).1)
  have HR2 := Lib.hid ((Below.heap_alloc w1 (.cells #[.int .i64 0, .int .i64 1] 61) _ hs1).trans HR1.out)
  have HB2 := Lib.hid (alloc_last w1 (.cells #[.int .i64 0, .int .i64 1] 61))
  have HBB := Lib.hid hs1
  clear hs1
  generalize w1.alloc (.cells #[.int .i64 0, .int .i64 1] 61) = w2 at *
  have HR2 := Lib.hid (show w2.heap[N]? = some (.cells #[.int .i64 0, .int .i64 0] 61) by rw [hN]; exact HR2.out)
  have HBB := Lib.hid (show N < w1.heap.size by rw [hN]; exact HBB.out)
  rw [← hN]
  clear hN
  generalize w1.heap.size = BB at *
  go_loopw [16] (fun i wr => ∃ j : Nat, j ≤ l.length ∧ i = .int .i64 j ∧ Hid (Below N w wr) ∧ Hid (wr.heap[N]? = some (.cells #[.int .i64 0, .int .i64 0] 61)) ∧ Hid (wr.heap[BB]? = some (.cells #[.int .i64 (degR (jointN (l.take j) ks)).1, .int .i64 (degR (jointN (l.take j) ks)).2] 61))) (fun i _ => l.length - (intOf i).toNat)
  case atStart => exact ⟨0, Nat.zero_le _, rfl, Lib.hid (by rw [HN.out]; exact HM2.out.below), HR2, HB2⟩
  case round =>
    obtain ⟨j, hj, rfl, HBx, HRx, HBBx⟩ := hrel
    clear HM2 HR2 HB2
    have HMx := Lib.hid (show More w wr from more_of (by rw [← HN.out]; exact HBx.out))
    by_cases hlt : j < l.length
    · obtain ⟨b, off, ua, uc, ha, hc, rfl, g0, g1, hcu, hch⟩ := HR.out.at hlt
      have g0 := HMx.out.cell g0
      have g1 := HMx.out.cell g1
      have HU := Lib.hid hcu
      have HH := Lib.hid hch
      have HOC := Lib.hid (HOK.out _ (List.getElem_mem hlt))
      have HT := Lib.hid (jointN_take l ks j hlt)
      have HBL := Lib.hid (HJL.out (l.take j) (fun c hc => List.mem_of_mem_take hc))
      clear hcu hch
      generalize l[j] = c at *
      generalize jointN (l.take j) ks = B at *
      obtain ⟨p, q, HPQ⟩ : ∃ p q, Hid (degR B = (p, q)) := ⟨_, _, Lib.hid rfl⟩
      rw [HPQ.out] at HBBx
      have hbg := cell_lt g0
      have hmm := fun (W : World) => run_makeMap133 (c.undo.length : Int) W
      have hbb := blk_lt HBBx.out
      have hnn := blk_lt HRx.out
      go_wp2_with fail
      clear hmm g0 g1 hbg
      have HBX := Lib.hid (JBox.mk (W := ((wr.alloc (.cells #[.slice ua c.undo.length uc, .slice ha c.hold.length hc] 34)).alloc (.map #[] 0)).alloc (.cells #[.map (some (wr.heap.size + 1))] 101)) (RB := N) (BB := BB) (CB := wr.heap.size) (HB := wr.heap.size + 1 + 1) (MB := wr.heap.size + 1)
        (by rw [Below.heap_alloc _ _ _ (by rw [World.size_alloc, World.size_alloc]; omega), Below.heap_alloc _ _ _ (by rw [World.size_alloc]; omega), Below.heap_alloc _ _ _ hnn]; exact HRx.out)
        (by rw [Below.heap_alloc _ _ _ (by rw [World.size_alloc, World.size_alloc]; omega), Below.heap_alloc _ _ _ (by rw [World.size_alloc]; omega), Below.heap_alloc _ _ _ hbb]; exact HBBx.out)
        (by rw [Below.heap_alloc _ _ _ (by rw [World.size_alloc, World.size_alloc]; omega), Below.heap_alloc _ _ _ (by rw [World.size_alloc]; omega)]; exact alloc_last _ _)
        (alloc_at _ _ (by simp)))
      have HMAP := Lib.hid (show HasM (((wr.alloc (.cells #[.slice ua c.undo.length uc, .slice ha c.hold.length hc] 34)).alloc (.map #[] 0)).alloc (.cells #[.map (some (wr.heap.size + 1))] 101)) (wr.heap.size + 1) 0 (c.undo.take 0) from by
        have := HasM.start (wr.alloc (.cells #[.slice ua c.undo.length uc, .slice ha c.hold.length hc] 34))
        rw [World.size_alloc] at this
        exact this.keep (Below.heap_alloc _ _ _ this.lt))
      have HB3 := Lib.hid (((HBx.out.alloc (Nat.le_of_lt hnn) (.cells #[.slice ua c.undo.length uc, .slice ha c.hold.length hc] 34)).alloc (by rw [World.size_alloc]; omega) (.map #[] 0)).alloc (by rw [World.size_alloc, World.size_alloc]; omega) (.cells #[.map (some (wr.heap.size + 1))] 101))
      have HNE := Lib.hid (show N < wr.heap.size ∧ BB < wr.heap.size from ⟨hnn, hbb⟩)
      clear hnn hbb HRx HBBx
      generalize ((wr.alloc (.cells #[.slice ua c.undo.length uc, .slice ha c.hold.length hc] 34)).alloc (.map #[] 0)).alloc (.cells #[.map (some (wr.heap.size + 1))] 101) = w3 at *
      obtain ⟨CB, HCB⟩ : ∃ CB, Hid (wr.heap.size = CB) := ⟨_, Lib.hid rfl⟩
      have hcb := HCB.out
      rw [hcb] at HBX HMAP HNE ⊢
      clear hcb
      have hlu := HOC.out.lu
      obtain ⟨wo, rfl⟩ : ∃ wo : World, wo = wr := ⟨_, rfl⟩
      go_loopw [27] (fun i wx => ∃ k : Nat, k ≤ c.undo.length ∧ i = .int .i64 k ∧ Hid (Below N w wx) ∧ Hid (HasM wx (CB + 1) k (c.undo.take k)) ∧ Hid (JBox wx N BB CB (CB + 1 + 1) (CB + 1) p q (.slice ua c.undo.length uc) (.slice ha c.hold.length hc))) (fun i _ => c.undo.length - (intOf i).toNat)
      case atStart => exact ⟨0, Nat.zero_le _, rfl, HB3, HMAP, HBX⟩
      case round =>
        obtain ⟨k, hk, rfl, HBy, HMy, HJy⟩ := hrel
        clear HB3 HMAP HBX
        have HMw := Lib.hid (show More w wr from more_of (by rw [← HN.out]; exact HBy.out))
        by_cases hkl : k < c.undo.length
        · obtain ⟨b2, off2, rfl, _, hcell⟩ := HU.out.atC kC_len hkl
          have g0 := HMw.out.cell (hcell 0 (.int .u8 c.undo[k].kind) rfl)
          have g1 := HMw.out.cell (hcell 1 (.int .i64 c.undo[k].a) rfl)
          have g2 := HMw.out.cell (hcell 2 (.int .i64 c.undo[k].b) rfl)
          have g3 := HMw.out.cell (hcell 3 (.int .i64 c.undo[k].n) rfl)
          rw [Nat.add_zero] at g0
          clear hcell
          have HTK := Lib.hid (show c.undo.take (k + 1) = c.undo.take k ++ [c.undo[k]] from List.take_succ_eq_append_getElem hkl)
          have HXO := Lib.hid (HOC.out.undo _ (List.getElem_mem hkl))
          generalize c.undo[k] = x at *
          have hbg := cell_lt g0
          have d0 : wr.cell? ⟨CB + 1 + 1, 0, none⟩ = some (.map (some (CB + 1))) := cell_of_blk HJy.out.h rfl
          have hdb := cell_lt d0
          have HMO := Lib.hid (Lay.alloc wr (.cells #[.int .u8 x.kind, .int .i64 x.a, .int .i64 x.b, .int .i64 x.n] 54)).1
          have HJ1 := Lib.hid (HJy.out.more HMO.out)
          have HB1 := Lib.hid (HBy.out.trans (HMO.out.below.mono (by have := blk_lt HJy.out.r; omega)))
          obtain ⟨n, D, ho, hn, ha⟩ := HMy.out.keep (HMO.out.block HMy.out.lt)
          have HO := Lib.hid ho
          have HRST := Lib.hid (And.intro hn ha)
          have hnm : n < maxLen := by unfold maxLen; have := HRST.out.1; have := HOC.out.lu; omega
          have HWV := Lib.hid (show plainElem (H := Unit) Tryz.prog 4 (.bool true) = some (boolD true, []) from plainElem_bool Tryz.underlying4 true)
          have HKO2 := Lib.hid (show keyOf Tryz.prog 54 (.agg #[.int .u8 x.kind, .int .i64 x.a, .int .i64 x.b, .int .i64 x.n]) = some (kL x) from keyOf_K x HXO.out)
          clear ho hn ha
          go_wp2_with (at_mapUpdate; refine wpList_mapUpdate_own _ rfl _ _ _ 101 rfl 54 4 lawK Tryz.underlying101 _ (CB + 1) n D rfl HO.out hnm _ _ _ rfl rfl HKO2.out _ [] HWV.out ?_; intro w7 hown7 hgrow7)
          have HB7 := Lib.hid (HB1.out.grown hgrow7 (by have := blk_lt HJ1.out.r; omega) (fun y e => by cases e; have := HNE.out; omega))
          have HJ7 := Lib.hid (HJ1.out.grown hgrow7 (by have := HNE.out; omega) (by have := HNE.out; omega) (by omega) (by omega))
          have HM7 := Lib.hid (HasM.put HO.out HXO.out HRST.out.1 HRST.out.2 hown7)
          clear hown7 hgrow7 g0 g1 g2 g3 d0 hbg hdb
          go_wp2_with fail
          go_roundw
          case rel => exact ⟨k + 1, by omega, by go_num, HB7, Lib.hid (by rw [HTK.out]; exact HM7.out), HJ7⟩
          case measure => simp [intOf]; omega
        · obtain rfl : k = c.undo.length := by omega
          rw [List.take_of_length_le (Nat.le_refl _)] at HMy
          have HCONT := Lib.hid (containsK_any ks (fun x => !decide (x ∈ c.undo)) _ ⟨CB + 1 + 1, 0, none⟩ wr (by omega) (HKS.out.below HMw.out.below) (fun x hx W hW => clos72_any x (HKO.out x hx) c.undo (CB + 1 + 1) (CB + 1) c.undo.length W (hW.cell (cell_of_blk HJy.out.h rfl)) (HMy.out.keep (hW.block HMy.out.lt))))
          obtain ⟨z, HZ⟩ : ∃ z, Hid (ks.any (fun x => !decide (x ∈ c.undo)) = z) := ⟨_, Lib.hid rfl⟩
          rw [HZ.out] at HCONT
          have HALL := Lib.hid (show allIn ks c.undo = !z by rw [← HZ.out, allIn_any])
          have HDG := Lib.hid (show ∀ W, More wr W → Calls Tryz.prog 21 #[.agg #[.slice ua c.undo.length uc, .slice ha c.hold.length hc]] W fun e w' => e = .returned (rA (degR c.size)) ∧ More W w' from fun W hl => degree_any anyB anyB c _ _ W HOC.out ((HU.out.below HMw.out.below).below hl.below) ((HH.out.below HMw.out.below).below hl.below))
          have HCM := Lib.hid (show ∀ W, Calls Tryz.prog 40 #[rA (degR c.size), rA (degR B)] W fun e w' => e = .returned (.int .i64 (cmpR (degR c.size) (degR B))) ∧ Lay W w' from fun W => cmpR_any _ _ W (degR_ok (by have := Cau.size_le HOC.out; omega)) (degR_ok (by have := HBL.out; omega)))
          rw [show rA (degR B) = .agg #[.int .i64 p, .int .i64 q] by rw [HPQ.out]; rfl] at HCM
          obtain ⟨p', q', HPQ'⟩ : ∃ p q, Hid (degR c.size = (p, q)) := ⟨_, _, Lib.hid rfl⟩
          rw [show rA (degR c.size) = .agg #[.int .i64 p', .int .i64 q'] by rw [HPQ'.out]; rfl] at HCM HDG
          have HPOS := Lib.hid (fun (h : allIn ks c.undo = true) (hp : 0 < cmpR (degR c.size) (degR B)) => jstep_pos h hp)
          have HNOT := Lib.hid (fun (hp : ¬ 0 < cmpR (degR c.size) (degR B)) => jstep_not (ks := ks) hp)
          obtain ⟨r, HRR⟩ : ∃ r, Hid (cmpR (degR c.size) (degR B) = r) := ⟨_, Lib.hid rfl⟩
          rw [HRR.out] at HCM HPOS HNOT
          go_wp2_with fail
          refine HCONT.out.mono ?_
          rintro e w4 ⟨rfl, hm4⟩
          have HB4 := Lib.hid (HBy.out.trans (hm4.below.mono (by have := blk_lt HJy.out.r; omega)))
          have HJ4 := Lib.hid (HJy.out.more hm4)
          have HM4 := Lib.hid hm4
          clear hm4
          have d0 : w4.cell? ⟨CB, 0, none⟩ = some (.slice ua c.undo.length uc) := cell_of_blk HJ4.out.c rfl
          have d1 : w4.cell? ⟨CB, 1, none⟩ = some (.slice ha c.hold.length hc) := cell_of_blk HJ4.out.c rfl
          go_wp2_with fail
          refine (HDG.out _ HM4.out).mono ?_
          rintro e w5 ⟨rfl, hm5⟩
          have HB5 := Lib.hid (HB4.out.trans (hm5.below.mono (by have := blk_lt HJ4.out.r; omega)))
          have HJ5 := Lib.hid (HJ4.out.more hm5)
          clear hm5 d0 d1
          have HMO := Lib.hid (Lay.alloc w5 (.cells #[.int .i64 p', .int .i64 q'] 61)).1
          have HB6 := Lib.hid (HB5.out.trans (HMO.out.below.mono (by have := blk_lt HJ5.out.r; omega)))
          have HJ6 := Lib.hid (HJ5.out.more HMO.out)
          have HD6 := Lib.hid (alloc_last w5 (.cells #[.int .i64 p', .int .i64 q'] 61))
          have HJS := Lib.hid (show ∀ n, jstep ks B c = n → jointN (l.take (j + 1)) ks = n from fun n h => by rw [HT.out, h])
          cases z with
          | true =>
            have HF := Lib.hid (HJS.out B (jstep_out (by rw [HALL.out]; rfl)))
            go_wp2_with fail
            go_roundw
            case rel => exact ⟨j + 1, by omega, by go_num, HB6, Lib.hid HJ6.out.r, Lib.hid (by rw [HF.out, HPQ.out]; exact HJ6.out.b)⟩
            case measure => simp [intOf]; omega
          | false =>
            have b0 : (w5.alloc (.cells #[.int .i64 p', .int .i64 q'] 61)).cell? ⟨BB, 0, none⟩ = some (.int .i64 p) := cell_of_blk HJ6.out.b rfl
            have b1 : (w5.alloc (.cells #[.int .i64 p', .int .i64 q'] 61)).cell? ⟨BB, 1, none⟩ = some (.int .i64 q) := cell_of_blk HJ6.out.b rfl
            have hb5 := blk_lt HJ5.out.b
            go_wp2_with fail
            refine (HCM.out _).mono ?_
            rintro e w7 ⟨rfl, hl7⟩
            have HB7 := Lib.hid (HB6.out.trans (hl7.1.below.mono (by have := blk_lt HJ6.out.r; omega)))
            have HJ7 := Lib.hid (HJ6.out.more hl7.1)
            have HD7 := Lib.hid ((hl7.1.block (blk_lt HD6.out)).trans HD6.out)
            clear hl7 b0 b1
            have d0 : w7.cell? ⟨w5.heap.size, 0, none⟩ = some (.int .i64 p') := cell_of_blk HD7.out rfl
            have d1 : w7.cell? ⟨w5.heap.size, 1, none⟩ = some (.int .i64 q') := cell_of_blk HD7.out rfl
            have b0 : w7.cell? ⟨BB, 0, none⟩ = some (.int .i64 p) := cell_of_blk HJ7.out.b rfl
            have b1 : w7.cell? ⟨BB, 1, none⟩ = some (.int .i64 q) := cell_of_blk HJ7.out.b rfl
            have f0 := thaw HJ7.out.b 0
            have f1 := thaw HJ7.out.b 1
            by_cases hr : 0 < r
            · have t1 : decide (0 < r) = true := by simp [hr]
              have HF := Lib.hid (HJS.out c.size (HPOS.out (by rw [HALL.out]; rfl) hr))
              go_wp2_with fail
              go_roundw
              case rel =>
                refine ⟨j + 1, by omega, by go_num, Lib.hid ((HB7.out.setCell (show N ≤ BB from Nat.le_of_lt HBB.out) _).setCell (show N ≤ BB from Nat.le_of_lt HBB.out) _), Lib.hid ?_, Lib.hid ?_⟩
                · rw [Below.heap_setCell _ _ _ _ (by have := HBB.out; show N ≠ BB; omega), Below.heap_setCell _ _ _ _ (by have := HBB.out; show N ≠ BB; omega)]
                  exact HJ7.out.r
                · rw [HF.out, HPQ'.out, setCell_heap (setCell_heap HJ7.out.b)]
                  rfl
              case measure => simp [intOf]; omega
            · have hr1 : r ≤ 0 := by omega
              have t1 : decide (0 < r) = false := by simp [hr1]
              have HF := Lib.hid (HJS.out B (HNOT.out (by simpa using hr1)))
              go_wp2_with fail
              go_roundw
              case rel => exact ⟨j + 1, by omega, by go_num, HB7, Lib.hid HJ7.out.r, Lib.hid (by rw [HF.out, HPQ.out]; exact HJ7.out.b)⟩
              case measure => simp [intOf]; omega
    · obtain rfl : j = l.length := by omega
      rw [List.take_of_length_le (Nat.le_refl _)] at HBBx
      obtain ⟨p, q, HPQ⟩ : ∃ p q, Hid (degR (jointN l ks) = (p, q)) := ⟨_, _, Lib.hid rfl⟩
      rw [HPQ.out] at HBBx
      have b0 : wr.cell? ⟨BB, 0, none⟩ = some (.int .i64 p) := cell_of_blk HBBx.out rfl
      have b1 : wr.cell? ⟨BB, 1, none⟩ = some (.int .i64 q) := cell_of_blk HBBx.out rfl
      have r0 : wr.cell? ⟨N, 0, none⟩ = some (.int .i64 0) := cell_of_blk HRx.out rfl
      have r1 : wr.cell? ⟨N, 1, none⟩ = some (.int .i64 0) := cell_of_blk HRx.out rfl
      have f0 := thaw HRx.out 0
      have f1 := thaw HRx.out 1
      go_wp2_with fail
      have c0 : ((wr.setCell ⟨N, 0, none⟩ (.int .i64 p)).setCell ⟨N, 1, none⟩ (.int .i64 q)).cell? ⟨N, 0, none⟩ = some (.int .i64 p) := by rw [setCell_neq (by omega)]; exact setCell_eq r0
      have c1 : ((wr.setCell ⟨N, 0, none⟩ (.int .i64 p)).setCell ⟨N, 1, none⟩ (.int .i64 q)).cell? ⟨N, 1, none⟩ = some (.int .i64 q) := setCell_eq (v := .int .i64 0) (by rw [setCell_neq (by omega)]; exact r1)
      exact bodyPost_ret (v := .agg #[.int .i64 p, .int .i64 q]) (by simp [results, Tryz.results20, go_sem, c0, c1]) rfl ⟨by rw [HPQ.out]; rfl, more_of (by rw [← HN.out]; exact (HBx.out.setCell (Nat.le_refl _) _).setCell (Nat.le_refl _) _)⟩
end Go.Proofs.YtemeppfikpafbaaGreat
