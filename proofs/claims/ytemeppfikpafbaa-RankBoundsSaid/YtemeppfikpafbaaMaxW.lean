/- ratio.Max (33) at positive degrees. -/
import Derived.Test.YtemeppfikpafbaaBndP
namespace Go.Proofs.Ytemeppfikpafbaa
open Go.RowKit
def dC (n : Fin 1001) : List Value := [.int .i64 (degR n.val).1, .int .i64 (degR n.val).2]
theorem dC_len (n : Fin 1001) : (dC n).length = 2 := rfl
theorem degR_one {n : Nat} (h : 0 < n) : degR n = (1, (n : Int)) := by unfold degR; rw [if_neg (by omega)]
set_option maxRecDepth 100000 in
set_option maxHeartbeats 2000000 in
theorem max_any (l : List (Fin 1001)) (v : Value) (w : World) (hl : l.length ≤ 100000) (hp : ∀ n ∈ l, 0 < n.val) (h0 : l ≠ []) (h : Row anyB w 2 l.length v (flatC dC l)) :
    Calls Try.prog 33 #[v] w fun e w' => e = .returned (.agg #[.int .i64 1, .int .i64 (maxD l)]) ∧ More w w' := by
  obtain ⟨a, cap, rfl, _⟩ := h.shape
  have HR := Lib.hid h; clear h
  have HP := Lib.hid hp; clear hp
  have HML := Lib.hid (maxD_le l)
  have HNE := Lib.hid h0; clear h0
  go_enter Try.func33, Try.ntmps33
  go_wp2_with fail
  obtain ⟨h1, h2, hm⟩ := boxed2 w (.cells #[.int .i64 0, .int .i64 0] 32) (.cells #[.int .i64 0, .int .i64 0] 32)
  generalize hw2 : (w.alloc (.cells #[.int .i64 0, .int .i64 0] 32)).alloc (.cells #[.int .i64 0, .int .i64 0] 32) = w2 at *
  have HM := Lib.hid hm.1
  have H1 := Lib.hid h1
  have H2 := Lib.hid h2
  clear h1 h2 hm hw2
  go_loopw [8] (fun i wr => ∃ j : Nat, j ≤ l.length ∧ i = .int .i64 j ∧ Hid (Below w.heap.size w wr) ∧ Hid (wr.heap[w.heap.size]? = some (.cells #[.int .i64 0, .int .i64 0] 32)) ∧ Hid (wr.heap[w.heap.size + 1]? = some (.cells #[.int .i64 (degV (maxD (l.take j))).1, .int .i64 (degV (maxD (l.take j))).2] 32))) (fun i _ => l.length - (intOf i).toNat)
  case atStart => exact ⟨0, Nat.zero_le _, rfl, Lib.hid HM.out.below, H1, H2⟩
  case round =>
    obtain ⟨j, hj, rfl, HB, HX, HY⟩ := hrel
    clear H1 H2
    by_cases hlt : j < l.length
    · obtain ⟨b, off, rfl, _, hc⟩ := HR.out.atC dC_len hlt
      have g0 := below_cell HB.out (hc 0 (.int .i64 (degR l[j].val).1) rfl)
      have g1 := below_cell HB.out (hc 1 (.int .i64 (degR l[j].val).2) rfl)
      rw [Nat.add_zero] at g0
      clear hc
      have HJ := Lib.hid (maxD_take l j hlt)
      have HN := Lib.hid (HP.out _ (List.getElem_mem hlt))
      have HNL := Lib.hid (show l[j].val ≤ 1000 by have := l[j].isLt; omega)
      have HMJ := Lib.hid (maxD_le (l.take j))
      generalize l[j].val = n at *
      generalize maxD (l.take j) = m at *
      rw [degR_one HN.out] at g0 g1
      have hbg := cell_lt g0
      have HVA := Lib.hid (fun W => valid_any (1, (n : Int)) W (Or.inr (Or.inr ⟨rfl, by have := HN.out; show (1 : Int) ≤ n; omega, by have := HNL.out; show (n : Int) ≤ 1000; omega⟩)))
      have HON := Lib.hid (show ∀ W, Calls Try.prog 74 #[.agg #[.int .i64 1, .int .i64 n]] W fun e w' => e = .returned (.agg #[.int .i64 1, .int .i64 n]) ∧ Lay W w' from fun W => one_any (1, (n : Int)) W (Or.inr (Or.inr ⟨rfl, by have := HN.out; show (1 : Int) ≤ n; omega, by have := HNL.out; show (n : Int) ≤ 1000; omega⟩)))
      have HCM := Lib.hid (show ∀ W, 0 < m → Calls Try.prog 30 #[.agg #[.int .i64 1, .int .i64 n], .agg #[.int .i64 1, .int .i64 m]] W fun e w' => e = .returned (.int .i64 (cmpR (degR n) (degR m))) ∧ Lay W w' from fun W h => by
        have := cmpR_any (degR n) (degR m) W (degR_ok HNL.out) (degR_ok HMJ.out)
        rw [degR_one HN.out, degR_one h] at this ⊢
        exact this)
      have HBX := Lib.hid (alloc_last wr (.cells #[.int .i64 1, .int .i64 n] 32))
      have HMX := Lib.hid (more_alloc wr (.cells #[.int .i64 1, .int .i64 n] 32))
      have HX2 := Lib.hid ((HMX.out.block (blk_lt HX.out)).trans HX.out)
      have HY2 := Lib.hid ((HMX.out.block (blk_lt HY.out)).trans HY.out)
      have HB2 := Lib.hid (HB.out.trans (HMX.out.below.mono HB.out.size))
      go_upto_region 5 with (fail)
      clear g0 g1 hbg
      generalize wr.alloc (.cells #[.int .i64 1, .int .i64 n] 32) = w3 at *
      generalize wr.heap.size = XB at *
      have x0 : w3.cell? ⟨XB, 0, none⟩ = some (.int .i64 1) := cell_of_blk HBX.out rfl
      have x1 : w3.cell? ⟨XB, 1, none⟩ = some (.int .i64 n) := cell_of_blk HBX.out rfl
      go_wp2_with fail
      refine (HVA.out _).mono ?_
      rintro e w4 ⟨rfl, hl4⟩
      have HBX4 := Lib.hid ((hl4.1.block (blk_lt HBX.out)).trans HBX.out)
      have HX4 := Lib.hid ((hl4.1.block (blk_lt HX2.out)).trans HX2.out)
      have HY4 := Lib.hid ((hl4.1.block (blk_lt HY2.out)).trans HY2.out)
      have HB4 := Lib.hid (HB2.out.trans (hl4.1.below.mono HB2.out.size))
      clear x0 x1 hl4 HBX HX2 HY2 HB2 HX HY HB HMX
      have x0 : w4.cell? ⟨XB, 0, none⟩ = some (.int .i64 1) := cell_of_blk HBX4.out rfl
      have x1 : w4.cell? ⟨XB, 1, none⟩ = some (.int .i64 n) := cell_of_blk HBX4.out rfl
      rcases Nat.eq_zero_or_pos m with hm0 | hm0
      · subst hm0
        have HJN := Lib.hid (show maxD (l.take (j + 1)) = n by rw [HJ.out]; unfold jv; rw [if_pos ⟨HN.out, Or.inl rfl⟩])
        have y0 : w4.cell? ⟨w.heap.size + 1, 0, none⟩ = some (.int .i64 0) := cell_of_blk HY4.out rfl
        have y1 : w4.cell? ⟨w.heap.size + 1, 1, none⟩ = some (.int .i64 0) := cell_of_blk HY4.out rfl
        have f0 := thaw HY4.out 0
        have f1 := thaw HY4.out 1
        have hxb := cell_lt x0
        have hyb := cell_lt y0
        go_wp2_with fail
        refine (HON.out _).mono ?_
        rintro e w5 ⟨rfl, hl5⟩
        have HX5 := Lib.hid ((hl5.1.block (blk_lt HX4.out)).trans HX4.out)
        have HY5 := Lib.hid ((hl5.1.block (blk_lt HY4.out)).trans HY4.out)
        have HB5 := Lib.hid (HB4.out.trans (hl5.1.below.mono HB4.out.size))
        clear x0 x1 y0 y1 f0 f1 hxb hyb hl5
        have y0 : w5.cell? ⟨w.heap.size + 1, 0, none⟩ = some (.int .i64 0) := cell_of_blk HY5.out rfl
        have y1 : w5.cell? ⟨w.heap.size + 1, 1, none⟩ = some (.int .i64 0) := cell_of_blk HY5.out rfl
        have f0 := thaw HY5.out 0
        have f1 := thaw HY5.out 1
        go_wp2_with fail
        go_roundw
        case rel =>
          refine ⟨j + 1, by omega, by go_num, Lib.hid ((HB5.out.setCell (Nat.le_succ _) _).setCell (Nat.le_succ _) _), Lib.hid ?_, Lib.hid ?_⟩
          · rw [Below.heap_setCell _ _ _ _ (by simp), Below.heap_setCell _ _ _ _ (by simp)]
            exact HX5.out
          · rw [HJN.out, degV_pos HN.out, degR_one HN.out]
            exact setCell_heap (setCell_heap HY5.out)
        case measure => simp [intOf]; omega
      · have y0 : w4.cell? ⟨w.heap.size + 1, 0, none⟩ = some (.int .i64 1) := cell_of_blk HY4.out (by rw [degV_pos hm0, degR_one hm0]; rfl)
        have y1 : w4.cell? ⟨w.heap.size + 1, 1, none⟩ = some (.int .i64 m) := cell_of_blk HY4.out (by rw [degV_pos hm0, degR_one hm0]; rfl)
        have f0 := thaw HY4.out 0
        have f1 := thaw HY4.out 1
        have hxb := cell_lt x0
        have hyb := cell_lt y0
        have HCP := Lib.hid (cmpR_pos n m)
        have HM0 := Lib.hid hm0
        obtain ⟨r, HRR⟩ : ∃ r, Hid (cmpR (degR n) (degR m) = r) := ⟨_, Lib.hid rfl⟩
        rw [HRR.out] at HCM HCP
        by_cases hr : 0 < r
        · have t1 : decide (0 < r) = true := by simp [hr]
          have HJN := Lib.hid (show maxD (l.take (j + 1)) = n by
            have := HCP.out.1 hr
            rw [HJ.out]; unfold jv; rw [if_pos (by omega)])
          clear hm0
          go_wp2_with fail
          refine (HCM.out _ HM0.out).mono ?_
          rintro e w6 ⟨rfl, hl6⟩
          have HX6 := Lib.hid ((hl6.1.block (blk_lt HX4.out)).trans HX4.out)
          have HY6 := Lib.hid ((hl6.1.block (blk_lt HY4.out)).trans HY4.out)
          have HB6 := Lib.hid (HB4.out.trans (hl6.1.below.mono HB4.out.size))
          have HBX6 := Lib.hid ((hl6.1.block (blk_lt HBX4.out)).trans HBX4.out)
          clear x0 x1 y0 y1 f0 f1 hxb hyb hl6 HX4 HY4 HB4 HBX4
          have x0 : w6.cell? ⟨XB, 0, none⟩ = some (.int .i64 1) := cell_of_blk HBX6.out rfl
          have x1 : w6.cell? ⟨XB, 1, none⟩ = some (.int .i64 n) := cell_of_blk HBX6.out rfl
          have hxb := cell_lt x0
          go_wp2_with fail
          refine (HON.out _).mono ?_
          rintro e w5 ⟨rfl, hl5⟩
          have HX5 := Lib.hid ((hl5.1.block (blk_lt HX6.out)).trans HX6.out)
          have HY5 := Lib.hid ((hl5.1.block (blk_lt HY6.out)).trans HY6.out)
          have HB5 := Lib.hid (HB6.out.trans (hl5.1.below.mono HB6.out.size))
          clear x0 x1 hxb hl5
          have y0 : w5.cell? ⟨w.heap.size + 1, 0, none⟩ = some (.int .i64 1) := cell_of_blk HY5.out (by rw [degV_pos HM0.out, degR_one HM0.out]; rfl)
          have y1 : w5.cell? ⟨w.heap.size + 1, 1, none⟩ = some (.int .i64 m) := cell_of_blk HY5.out (by rw [degV_pos HM0.out, degR_one HM0.out]; rfl)
          have f0 := thaw HY5.out 0
          have f1 := thaw HY5.out 1
          go_wp2_with fail
          go_roundw
          case rel =>
            refine ⟨j + 1, by omega, by go_num, Lib.hid ((HB5.out.setCell (Nat.le_succ _) _).setCell (Nat.le_succ _) _), Lib.hid ?_, Lib.hid ?_⟩
            · rw [Below.heap_setCell _ _ _ _ (by simp), Below.heap_setCell _ _ _ _ (by simp)]
              exact HX5.out
            · rw [HJN.out, degV_pos HN.out, degR_one HN.out]
              exact setCell_heap (setCell_heap HY5.out)
          case measure => simp [intOf]; omega
        · have t1 : decide (0 < r) = false := by simp [hr]
          have HJN := Lib.hid (show maxD (l.take (j + 1)) = m by
            have : ¬ (0 < n ∧ (m = 0 ∨ n < m)) := fun e => hr (HCP.out.2 e)
            rw [HJ.out]; unfold jv; rw [if_neg this])
          clear hm0
          go_wp2_with fail
          refine (HCM.out _ HM0.out).mono ?_
          rintro e w6 ⟨rfl, hl6⟩
          have HX6 := Lib.hid ((hl6.1.block (blk_lt HX4.out)).trans HX4.out)
          have HY6 := Lib.hid ((hl6.1.block (blk_lt HY4.out)).trans HY4.out)
          have HB6 := Lib.hid (HB4.out.trans (hl6.1.below.mono HB4.out.size))
          have HBX6 := Lib.hid ((hl6.1.block (blk_lt HBX4.out)).trans HBX4.out)
          clear x0 x1 y0 y1 f0 f1 hxb hyb hl6 HX4 HY4 HB4 HBX4
          go_wp2_with fail
          go_roundw
          case rel => exact ⟨j + 1, by omega, by go_num, HB6, HX6, by rw [HJN.out]; exact HY6⟩
          case measure => simp [intOf]; omega
    · obtain rfl : j = l.length := by omega
      rw [List.take_of_length_le (Nat.le_refl _)] at HY
      have HPM := Lib.hid (show degV (maxD l) = (1, (maxD l : Int)) by
        obtain ⟨x, r, e⟩ := List.exists_cons_of_ne_nil HNE.out
        have : 0 < maxD l := by
          have g : ∀ (l : List (Fin 1001)) (b : Nat), 0 < b → 0 < l.foldl (fun b n => jv b n.val) b := by
            intro l
            induction l with
            | nil => intro b h; exact h
            | cons x r ih =>
              intro b h
              rw [List.foldl_cons]
              refine ih _ ?_
              unfold jv
              split <;> omega
          rw [e]
          unfold maxD
          rw [List.foldl_cons]
          refine g _ _ ?_
          have := HP.out x (by rw [e]; simp)
          unfold jv
          rw [if_pos ⟨this, Or.inl rfl⟩]; exact this
        rw [degV_pos this, degR_one this])
      rw [HPM.out] at HY
      have HB1 := Lib.hid (show 1 ≤ (maxD l : Int) from by
        have h1 := congrArg Prod.fst HPM.out
        unfold degV at h1
        by_cases e : maxD l = 0
        · rw [if_pos e] at h1; cases h1
        · omega)
      generalize hme : maxD l = m at *
      have HME := Lib.hid hme; clear hme
      have HON := Lib.hid (show ∀ W, Calls Try.prog 74 #[.agg #[.int .i64 1, .int .i64 m]] W fun e w' => e = .returned (.agg #[.int .i64 1, .int .i64 m]) ∧ Lay W w' from fun W => one_any (1, (m : Int)) W (Or.inr (Or.inr ⟨rfl, HB1.out, by have := HML.out; show (m : Int) ≤ 1000; omega⟩)))
      have y0 : wr.cell? ⟨w.heap.size + 1, 0, none⟩ = some (.int .i64 1) := cell_of_blk HY.out rfl
      have y1 : wr.cell? ⟨w.heap.size + 1, 1, none⟩ = some (.int .i64 m) := cell_of_blk HY.out rfl
      have hyb := cell_lt y0
      go_wp2_with fail
      refine (HON.out _).mono ?_
      rintro e w5 ⟨rfl, hl5⟩
      have HX5 := Lib.hid ((hl5.1.block (blk_lt HX.out)).trans HX.out)
      have HB5 := Lib.hid (HB.out.trans (hl5.1.below.mono HB.out.size))
      clear y0 y1 hyb hl5
      have k0 : w5.cell? ⟨w.heap.size, 0, none⟩ = some (.int .i64 0) := cell_of_blk HX5.out rfl
      have k1 : w5.cell? ⟨w.heap.size, 1, none⟩ = some (.int .i64 0) := cell_of_blk HX5.out rfl
      have f0 := thaw HX5.out 0
      have f1 := thaw HX5.out 1
      go_wp2_with fail
      have c0 : ((w5.setCell ⟨w.heap.size, 0, none⟩ (.int .i64 1)).setCell ⟨w.heap.size, 1, none⟩ (.int .i64 m)).cell? ⟨w.heap.size, 0, none⟩ = some (.int .i64 1) := by rw [setCell_neq (by omega)]; exact setCell_eq k0
      have c1 : ((w5.setCell ⟨w.heap.size, 0, none⟩ (.int .i64 1)).setCell ⟨w.heap.size, 1, none⟩ (.int .i64 m)).cell? ⟨w.heap.size, 1, none⟩ = some (.int .i64 m) := setCell_eq (v := .int .i64 0) (by rw [setCell_neq (by omega)]; exact k1)
      exact bodyPost_ret (v := .agg #[.int .i64 1, .int .i64 m]) (by simp [results, Try.results33, go_sem, c0, c1]) rfl ⟨by rw [HME.out], more_of ((HB5.out.setCell (Nat.le_refl _) _).setCell (Nat.le_refl _) _)⟩
end Go.Proofs.Ytemeppfikpafbaa
