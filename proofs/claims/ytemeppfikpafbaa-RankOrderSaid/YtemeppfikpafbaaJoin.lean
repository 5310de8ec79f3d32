/- The reference's Joint (29). -/
import Derived.Test.YtemeppfikpafbaaRefR
namespace Go.Proofs.Ytemeppfikpafbaa
open Go.RowKit
theorem CRow.more {w w' : World} {l : List Cau} {v : Value} (hB : More w w') (h : CRow w l v) : CRow w' l v := h.below hB.below
/-- All keys are among the others. -/
def allIn (ks u : List K4) : Bool := ks.all fun x => decide (x ∈ u)
theorem allIn_iff (ks u : List K4) : allIn ks u = true ↔ ∀ x ∈ ks, x ∈ u := by unfold allIn; simp
theorem allIn_push (ks u : List K4) (x : K4) : allIn (ks ++ [x]) u = (allIn ks u && decide (x ∈ u)) := by unfold allIn; simp
set_option maxRecDepth 100000 in
set_option maxHeartbeats 2000000 in
theorem joint29_any (l : List Cau) (ks : List K4) (v u : Value) (w : World) (hl : l.length ≤ 400) (hks : ks.length ≤ 4000) (hok : ∀ c ∈ l, c.Ok) (h : CRow w l v) (hu : Row anyB w 4 ks.length u (flatC kC ks)) :
    Calls Try.prog 29 #[v, u] w fun e w' => e = .returned (.int .i64 (jointN l ks)) ∧ More w w' := by
  obtain ⟨a, cap, rfl, _⟩ := h.shape
  obtain ⟨ka, kcap, rfl, _⟩ := hu.shape
  have HR := Lib.hid h; clear h
  have HKS := Lib.hid hu; clear hu
  have HOK := Lib.hid hok; clear hok
  have HJL := Lib.hid (fun (m : List Cau) (hm : ∀ c ∈ m, c ∈ l) => jointN_le (fun c hc => HOK.out c (hm c hc)) ks)
  go_enter Try.func29, Try.ntmps29
  go_wp2_with fail
  go_loopw [5, 14] (fun b i wr => ∃ j : Nat, j ≤ l.length ∧ i = .int .i64 j ∧ b = .int .i64 (jointN (l.take j) ks) ∧ Hid (More w wr)) (fun _ i _ => l.length - (intOf i).toNat)
  case atStart => exact ⟨0, Nat.zero_le _, rfl, rfl, Lib.hid (World.grownBy.refl _ _)⟩
  case round =>
    obtain ⟨j, hj, rfl, rfl, HM⟩ := hrel
    by_cases hlt : j < l.length
    · obtain ⟨b, off, ua, uc, ha, hc, rfl, g0, g1, hcu, hch⟩ := HR.out.at hlt
      have g0 := HM.out.cell g0
      have g1 := HM.out.cell g1
      have HU := Lib.hid hcu
      have HH := Lib.hid hch
      have HOC := Lib.hid (HOK.out _ (List.getElem_mem hlt))
      have HT := Lib.hid (jointN_take l ks j hlt)
      have HBL := Lib.hid (HJL.out (l.take j) (fun c hc => List.mem_of_mem_take hc))
      clear hcu hch
      generalize l[j] = c at *
      generalize jointN (l.take j) ks = B at *
      have hbg := cell_lt g0
      go_wp2_with fail
      have HC := Lib.hid (alloc_last wr (.cells #[.slice ua c.undo.length uc, .slice ha c.hold.length hc] 36))
      have HM1 := Lib.hid (more_trans HM.out (Lay.alloc wr (.cells #[.slice ua c.undo.length uc, .slice ha c.hold.length hc] 36)).1)
      clear g0 g1 hbg
      generalize wr.alloc (.cells #[.slice ua c.undo.length uc, .slice ha c.hold.length hc] 36) = w1 at *
      generalize wr.heap.size = CB at *
      obtain ⟨wo, rfl⟩ : ∃ wo : World, wo = wr := ⟨_, rfl⟩
      go_loopw [8, 20] (fun al i wx => ∃ k : Nat, k ≤ ks.length ∧ i = .int .i64 k ∧ al = .bool (allIn (ks.take k) c.undo) ∧ Hid (More w wx) ∧ Hid (wx.heap[CB]? = some (.cells #[.slice ua c.undo.length uc, .slice ha c.hold.length hc] 36))) (fun _ i _ => ks.length - (intOf i).toNat)
      case atStart => exact ⟨0, Nat.zero_le _, rfl, by simp [allIn], HM1, HC⟩
      case round =>
        obtain ⟨k, hk, rfl, rfl, HMx, HCx⟩ := hrel
        clear HM1 HC HM
        have d0 : wr.cell? ⟨CB, 0, none⟩ = some (.slice ua c.undo.length uc) := cell_of_blk HCx.out rfl
        have d1 : wr.cell? ⟨CB, 1, none⟩ = some (.slice ha c.hold.length hc) := cell_of_blk HCx.out rfl
        have hcb := cell_lt d0
        by_cases hkl : k < ks.length
        · obtain ⟨b2, off2, rfl, _, hcell⟩ := HKS.out.atC kC_len hkl
          have g0 := HMx.out.cell (hcell 0 (.int .u8 ks[k].kind) rfl)
          have g1 := HMx.out.cell (hcell 1 (.int .i64 ks[k].a) rfl)
          have g2 := HMx.out.cell (hcell 2 (.int .i64 ks[k].b) rfl)
          have g3 := HMx.out.cell (hcell 3 (.int .i64 ks[k].n) rfl)
          rw [Nat.add_zero] at g0
          clear hcell
          have HTK := Lib.hid (show ks.take (k + 1) = ks.take k ++ [ks[k]] from List.take_succ_eq_append_getElem hkl)
          generalize ks[k] = x at *
          have hbg := cell_lt g0
          have HCT := Lib.hid (show ∀ W, More wr W → Calls Try.prog 73 #[.agg #[.slice ua c.undo.length uc, .slice ha c.hold.length hc], .agg #[.int .u8 x.kind, .int .i64 x.a, .int .i64 x.b, .int .i64 x.n]] W fun e w' => e = .returned (.bool (decide (x ∈ c.undo))) ∧ More W w' from fun W hW => contains_any c.undo x _ _ W (by have := HOC.out.lu; omega) (HU.out.below (more_trans HMx.out hW).below))
          obtain ⟨q, HQ⟩ : ∃ q, Hid (decide (x ∈ c.undo) = q) := ⟨_, Lib.hid rfl⟩
          rw [HQ.out] at HCT
          have HX1 := Lib.hid (Lay.alloc wr (.cells #[.int .u8 x.kind, .int .i64 x.a, .int .i64 x.b, .int .i64 x.n] 48)).1
          have HC1 := Lib.hid ((Below.heap_alloc wr (.cells #[.int .u8 x.kind, .int .i64 x.a, .int .i64 x.b, .int .i64 x.n] 48) _ hcb).trans HCx.out)
          obtain ⟨p, HP⟩ : ∃ p, Hid (allIn (ks.take k) c.undo = p) := ⟨_, Lib.hid rfl⟩
          rw [HP.out]
          have HREL := Lib.hid (show allIn (ks.take (k + 1)) c.undo = (p && q) by rw [HTK.out, allIn_push, HP.out, HQ.out])
          cases p with
          | true =>
            go_wp2_with fail
            refine (HCT.out _ HX1.out).mono ?_
            rintro e w5 ⟨rfl, hm5⟩
            have HM5 := Lib.hid (more_trans HMx.out (more_trans HX1.out hm5))
            have HC5 := Lib.hid ((hm5.block (by rw [World.size_alloc]; omega)).trans HC1.out)
            clear hm5 g0 g1 g2 g3 d0 d1 hbg
            go_wp2_with fail
            go_roundw
            case rel => exact ⟨k + 1, by omega, by go_num, by rw [HREL.out]; rfl, HM5, HC5⟩
            case measure => simp [intOf]; omega
          | false =>
            go_wp2_with fail
            go_roundw
            case rel => exact ⟨k + 1, by omega, by go_num, by rw [HREL.out]; rfl, Lib.hid (more_trans HMx.out HX1.out), HC1⟩
            case measure => simp [intOf]; omega
        · obtain rfl : k = ks.length := by omega
          rw [List.take_of_length_le (Nat.le_refl _)]
          have HS := Lib.hid (show ∀ W, More wr W → Calls Try.prog 24 #[.agg #[.slice ua c.undo.length uc, .slice ha c.hold.length hc]] W fun e w' => e = .returned (.int .i64 c.size) ∧ More W w' from fun W hW => size24_any c _ _ W HOC.out (HU.out.below (more_trans HMx.out hW).below) (HH.out.below (more_trans HMx.out hW).below))
          have HSL := Lib.hid (Cau.size_le HOC.out)
          obtain ⟨p, HP⟩ : ∃ p, Hid (allIn ks c.undo = p) := ⟨_, Lib.hid rfl⟩
          rw [HP.out]
          have HJ := Lib.hid (show jstep ks B c = if p = true ∧ 0 < c.size ∧ (B = 0 ∨ c.size < B) then c.size else B by unfold jstep; rw [← HP.out]; simp only [allIn_iff])
          generalize c.size = s at *
          have hsl := HSL.out
          have hbl := HBL.out
          go_upto_region 11 with (fail)
          go_wp2_with fail
          refine (HS.out _ (World.grownBy.refl _ _)).mono ?_
          rintro e w5 ⟨rfl, hm5⟩
          have HM5 := Lib.hid (more_trans HMx.out hm5)
          clear hm5 d0 d1
          have hfin : ∀ n : Nat, jstep ks B c = n → Hid (jointN (l.take (j + 1)) ks = n) := fun n hn => Lib.hid (by rw [HT.out]; exact hn)
          have HFIN := Lib.hid hfin
          clear hfin
          cases p with
          | false =>
            have HF := HFIN.out B (by rw [HJ.out]; simp)
            go_wp2_with fail
            go_roundw
            case rel => exact ⟨j + 1, by omega, by go_num, by rw [HF.out], HM5⟩
            case measure => simp [intOf]; omega
          | true =>
            by_cases hs : 0 < s
            · by_cases hB : B = 0
              · subst hB
                have HF := HFIN.out s (by rw [HJ.out]; simp [hs])
                go_wp2_with fail
                go_roundw
                case rel => exact ⟨j + 1, by omega, by go_num, by rw [HF.out], HM5⟩
                case measure => simp [intOf]; omega
              · have t1 : ((B : Int) == 0) = false := by rw [beq_eq_false_iff_ne]; omega
                by_cases hsB : s < B
                · have HF := HFIN.out s (by rw [HJ.out]; simp [hs, hsB])
                  clear hB
                  go_wp2_with fail
                  go_roundw
                  case rel => exact ⟨j + 1, by omega, by go_num, by rw [HF.out], HM5⟩
                  case measure => simp [intOf]; omega
                · have HF := HFIN.out B (by rw [HJ.out, if_neg (by rintro ⟨_, _, h | h⟩; exact hB h; exact hsB h)])
                  clear hB
                  go_wp2_with fail
                  go_roundw
                  case rel => exact ⟨j + 1, by omega, by go_num, by rw [HF.out], HM5⟩
                  case measure => simp [intOf]; omega
            · obtain rfl : s = 0 := by omega
              have HF := HFIN.out B (by rw [HJ.out]; simp)
              clear hs
              go_wp2_with fail
              go_roundw
              case rel => exact ⟨j + 1, by omega, by go_num, by rw [HF.out], HM5⟩
              case measure => simp [intOf]; omega
    · obtain rfl : j = l.length := by omega
      rw [List.take_of_length_le (Nat.le_refl _)]
      go_wp2_with fail
      go_ret
      exact ⟨rfl, HM.out⟩
end Go.Proofs.Ytemeppfikpafbaa
