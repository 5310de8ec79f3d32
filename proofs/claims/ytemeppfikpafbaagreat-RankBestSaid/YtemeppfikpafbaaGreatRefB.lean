/- The reference's Best (9 in the great seat). -/
import Derived.Test.YtemeppfikpafbaaGreatRefR
import Derived.Test.YtemeppfikpafbaaGreatJoin
import Derived.Test.YtemeppfikpafbaaGreatNilB
namespace Go.Proofs.YtemeppfikpafbaaGreat
open Go.RowKit
def iC (n : Nat) : List Value := [.int .i64 n]
theorem iC_len (n : Nat) : (iC n).length = 1 := rfl
/-- The numbers of the first causes with a size. -/
def idxT (l : List Cau) (J j : Nat) : List Nat := (List.range j).filter fun i => decide (l[i]!.size = J)
theorem idxT_push (l : List Cau) (J j : Nat) (h : j < l.length) : idxT l J (j + 1) = idxT l J j ++ if l[j].size = J then [j] else [] := by
  unfold idxT
  rw [List.range_succ, List.filter_append]
  congr 1
  rw [List.filter_cons, getElem!_pos l j h]
  by_cases e : l[j].size = J
  · rw [if_pos e, if_pos (decide_eq_true e)]; rfl
  · rw [if_neg e, if_neg (fun h => e (of_decide_eq_true h))]; rfl
theorem idxT_len (l : List Cau) (J j : Nat) : (idxT l J j).length ≤ j := by
  have := List.length_filter_le (fun i => decide (l[i]!.size = J)) (List.range j)
  rw [List.length_range] at this
  exact this
theorem info3 : (Tryz.prog.info? 3).map (fun i => (i.zero, i.size, i.bytes)) = some (some (.int .i64 0), 1, 8) := by kernel_rfl
theorem jstep_nil (B : Nat) (c : Cau) : jstep [] B c = if 0 < c.size ∧ (B = 0 ∨ c.size < B) then c.size else B := by
  unfold jstep; simp
set_option maxRecDepth 100000 in
set_option maxHeartbeats 4000000 in
theorem refBest_any (l : List Cau) (v : Value) (w : World) (hl : l.length ≤ 400) (hok : ∀ c ∈ l, c.Ok) (h : CRow w l v) :
    Calls Tryz.prog 9 #[v] w fun e w' => (∃ v', e = .returned v' ∧ w'.ownsRow w.heap.size 3 1 v' (idxT l (jointN l []) l.length).length (flatC iC (idxT l (jointN l []) l.length))) ∧ Below w.heap.size w w' := by
  obtain ⟨a, cap, rfl, _⟩ := h.shape
  have HR := Lib.hid h; clear h
  have HOK := Lib.hid hok; clear hok
  have HJL := Lib.hid (fun (m : List Cau) (hm : ∀ c ∈ m, c ∈ l) => jointN_le (fun c hc => HOK.out c (hm c hc)) [])
  obtain ⟨i0, hi0, hz0, hz1, hz2⟩ := info_parts info3
  go_enter Tryz.func9, Tryz.ntmps9
  go_wp2_with fail
  go_loopw [3, 12] (fun b i wr => ∃ j : Nat, j ≤ l.length ∧ i = .int .i64 j ∧ b = .int .i64 (jointN (l.take j) []) ∧ Hid (More w wr)) (fun _ i _ => l.length - (intOf i).toNat)
  case atStart => exact ⟨0, Nat.zero_le _, rfl, rfl, Lib.hid (World.grownBy.refl _ _)⟩
  case round =>
    obtain ⟨j, hj, rfl, rfl, HM⟩ := hrel
    by_cases hlt : j < l.length
    · obtain ⟨b, off, ua, uc, ha, hc, rfl, g0, g1, hcu, hch⟩ := HR.out.at hlt
      have g0 := HM.out.cell g0
      have g1 := HM.out.cell g1
      have HOC := Lib.hid (HOK.out _ (List.getElem_mem hlt))
      have HT := Lib.hid ((jointN_take l [] j hlt).trans (jstep_nil _ _))
      have HBL := Lib.hid (HJL.out (l.take j) (fun c hc => List.mem_of_mem_take hc))
      have HLT := Lib.hid hlt
      generalize l[j] = c at *
      generalize jointN (l.take j) [] = B at *
      have HU := Lib.hid hcu
      have HH := Lib.hid hch
      clear hcu hch
      have HSZ := Lib.hid (Cau.size_le HOC.out)
      have hbg := cell_lt g0
      go_upto_region 5 with (fail)
      have HC := Lib.hid (alloc_last wr (.cells #[.slice ua c.undo.length uc, .slice ha c.hold.length hc] 66))
      have HM1 := Lib.hid (more_trans HM.out (more_alloc wr (.cells #[.slice ua c.undo.length uc, .slice ha c.hold.length hc] 66)))
      clear g0 g1 hbg
      generalize wr.alloc (.cells #[.slice ua c.undo.length uc, .slice ha c.hold.length hc] 66) = w1 at *
      generalize wr.heap.size = CB at *
      have d0 : w1.cell? ⟨CB, 0, none⟩ = some (.slice ua c.undo.length uc) := cell_of_blk HC.out rfl
      have d1 : w1.cell? ⟨CB, 1, none⟩ = some (.slice ha c.hold.length hc) := cell_of_blk HC.out rfl
      have hcb := cell_lt d0
      have HSC := Lib.hid (size24_any c _ _ w1 HOC.out (HU.out.below HM1.out.below) (HH.out.below HM1.out.below))
      go_wp2_with fail
      refine HSC.out.mono ?_
      rintro e w2 ⟨rfl, hm2⟩
      have HM2 := Lib.hid (more_trans HM1.out hm2)
      clear hm2 d0 d1 hcb HSC
      generalize c.size = n at *
      by_cases h1 : 0 < n
      · by_cases h2 : B = 0
        · have HT1 := Lib.hid (show jointN (l.take (j + 1)) [] = n by rw [HT.out, if_pos ⟨h1, Or.inl h2⟩])
          subst h2
          clear HT
          go_wp2_with fail
          go_roundw
          case rel => exact ⟨j + 1, by have := HLT.out; omega, by go_num, by rw [HT1.out], HM2⟩
          case measure => have := HLT.out; simp [intOf]; omega
        · have h2b : 0 < B := by omega
          clear h2
          by_cases h3 : n < B
          · have HT1 := Lib.hid (show jointN (l.take (j + 1)) [] = n by rw [HT.out, if_pos ⟨h1, Or.inr h3⟩])
            clear HT
            go_wp2_with fail
            go_roundw
            case rel => exact ⟨j + 1, by have := HLT.out; omega, by go_num, by rw [HT1.out], HM2⟩
            case measure => have := HLT.out; simp [intOf]; omega
          · have HT1 := Lib.hid (show jointN (l.take (j + 1)) [] = B by rw [HT.out, if_neg (by omega)])
            clear HT
            go_wp2_with fail
            go_roundw
            case rel => exact ⟨j + 1, by have := HLT.out; omega, by go_num, by rw [HT1.out], HM2⟩
            case measure => have := HLT.out; simp [intOf]; omega
      · have HT1 := Lib.hid (show jointN (l.take (j + 1)) [] = B by rw [HT.out, if_neg (by omega)])
        have h1z : n = 0 := by omega
        subst h1z
        clear HT h1
        go_wp2_with fail
        go_roundw
        case rel => exact ⟨j + 1, by have := HLT.out; omega, by go_num, by rw [HT1.out], HM2⟩
        case measure => have := HLT.out; simp [intOf]; omega
    · obtain rfl : j = l.length := by omega
      rw [List.take_of_length_le (Nat.le_refl _)] 
      clear hlt hj
      obtain ⟨J, HJE⟩ : ∃ J, Hid (J = jointN l []) := ⟨_, Lib.hid rfl⟩
      rw [← HJE.out]
      obtain ⟨w3, rfl⟩ : ∃ w3 : World, w3 = wr := ⟨_, rfl⟩
      obtain ⟨N, HN⟩ : ∃ N, Hid (N = w3.heap.size) := ⟨_, Lib.hid rfl⟩
      go_wp2_with fail
      go_loopw [7, 33] (fun o i wr => ∃ j : Nat, j ≤ l.length ∧ i = .int .i64 j ∧ Hid (wr.ownsRow N 3 1 o (idxT l J j).length (flatC iC (idxT l J j))) ∧ Hid (Below N w3 wr)) (fun _ i _ => l.length - (intOf i).toNat)
      case atStart => exact ⟨0, Nat.zero_le _, rfl, Lib.hid (World.ownsRow_nil _ _ _ _), Lib.hid (Below.refl _ _)⟩
      case round =>
        obtain ⟨j, hj, rfl, HO, HB⟩ := hrel
        have HMW := Lib.hid (show More w wr from more_trans HM.out (more_of (by have := HB.out; rw [HN.out] at this; exact this)))
        have HNW := Lib.hid (show N ≤ wr.heap.size by rw [HN.out]; exact HB.out.size)
        by_cases hlt : j < l.length
        · obtain ⟨b, off, ua, uc, ha, hc, rfl, g0, g1, hcu, hch⟩ := HR.out.at hlt
          have g0 := HMW.out.cell g0
          have g1 := HMW.out.cell g1
          have HOC := Lib.hid (HOK.out _ (List.getElem_mem hlt))
          have HT := Lib.hid (idxT_push l J j hlt)
          have HLT := Lib.hid hlt
          generalize l[j] = c at *
          have HU := Lib.hid hcu
          have HH := Lib.hid hch
          clear hcu hch
          have hIL := idxT_len l J j
          generalize idxT l J j = I at *
          obtain ⟨oa, oc, rfl, _⟩ := owns_shape HO.out
          have hbg := cell_lt g0
          go_upto_region 13 with (fail)
          have HC := Lib.hid (alloc_last wr (.cells #[.slice ua c.undo.length uc, .slice ha c.hold.length hc] 66))
          have HMO := Lib.hid (more_alloc wr (.cells #[.slice ua c.undo.length uc, .slice ha c.hold.length hc] 66))
          have HB1 := Lib.hid (HB.out.alloc HNW.out (.cells #[.slice ua c.undo.length uc, .slice ha c.hold.length hc] 66))
          have HO1 := Lib.hid (HO.out.alloc (.cells #[.slice ua c.undo.length uc, .slice ha c.hold.length hc] 66))
          clear g0 g1 hbg
          generalize wr.alloc (.cells #[.slice ua c.undo.length uc, .slice ha c.hold.length hc] 66) = w1 at *
          generalize wr.heap.size = CB at *
          have d0 : w1.cell? ⟨CB, 0, none⟩ = some (.slice ua c.undo.length uc) := cell_of_blk HC.out rfl
          have d1 : w1.cell? ⟨CB, 1, none⟩ = some (.slice ha c.hold.length hc) := cell_of_blk HC.out rfl
          have hcb := cell_lt d0
          have HM1 := Lib.hid (more_trans HMW.out HMO.out)
          have HSC := Lib.hid (size24_any c _ _ w1 HOC.out (HU.out.below HM1.out.below) (HH.out.below HM1.out.below))
          go_wp2_with fail
          refine HSC.out.mono ?_
          rintro e w2 ⟨rfl, hm2⟩
          have HM2 := Lib.hid hm2
          have HB2 := Lib.hid (HB1.out.trans (hm2.below.mono (by have := HB1.out.size; have := HMO.out.size; have := HNW.out; omega)))
          have HO2 := Lib.hid (owns_keep HO1.out (fun z hz => hm2.block (HO1.out.lt z hz).2))
          have HN2 := Lib.hid (show N ≤ w2.heap.size by have := HMO.out.size; have := HNW.out; have := hm2.size; omega)
          clear hm2 d0 d1 hcb HSC
          generalize c.size = n at *
          by_cases h1 : n = J
          · rw [if_pos h1] at HT
            subst h1
            have hm1 : I.length + 1 ≤ maxLen := by unfold maxLen; omega
            have hm2 : (I.length + 1) * 8 ≤ 140737488355328 := by omega
            have HO3 := Lib.hid (HO2.out.alloc (.cells #[.int .i64 (j : Int)] 3))
            have HOZ := Lib.hid (fun z hz => (HO2.out.lt z hz))
            have HLS := Lib.hid (show (I ++ [j]).length = I.length + 1 by rw [List.length_append, List.length_singleton])
            go_wp2_with (at_builtin; refine wpList_append_lies _ rfl _ _ 28 rfl N 3 i0 _ 1 8 Tryz.underlying28 hi0 hz0 hz1 hz2 rfl (by omega) (.slice oa I.length oc) I.length (flatC iC I) rfl HO3.out ⟨w2.heap.size, 0, none⟩ 1 1 [.int .i64 (j : Int)] rfl rfl (World.news_of_block (cs := #[.int .i64 (j : Int)]) (t := 3) (fr := (0, 0)) (alloc_last _ _)) (by simp [Value.oneCell']) (by omega) hm1 hm2 (by rw [World.size_alloc]; exact Nat.le_succ_of_le HN2.out) (w2.heap.size + 1) (by simp) ?_; intro gg cap8 w8 hown8 hgrow8 hat8 _)
            have HO8 := Lib.hid (show w8.ownsRow N 3 1 (.slice (some ⟨gg, 0, none⟩) (I.length + 1) cap8) (idxT l n (j + 1)).length (flatC iC (idxT l n (j + 1))) by rw [HT.out, HLS.out, flatC_push]; exact hown8)
            have HB8 := Lib.hid (show Below N w3 w8 from (HB2.out.alloc HN2.out _).grown hgrow8 (by rw [World.size_alloc]; exact Nat.le_succ_of_le HN2.out) (fun z hz => (HOZ.out z hz).1))
            clear hown8 hgrow8 hat8
            go_wp2_with fail
            go_roundw
            case rel => exact ⟨j + 1, by have := HLT.out; omega, by go_num, HO8, HB8⟩
            case measure => have := HLT.out; simp [intOf]; omega
          · rw [if_neg h1, List.append_nil] at HT
            have h1' : ((n : Int) == (J : Int)) = false := beq_eq_false_iff_ne.2 (by omega)
            clear h1
            go_wp2_with fail
            go_roundw
            case rel => exact ⟨j + 1, by have := HLT.out; omega, by go_num, Lib.hid (by rw [HT.out]; exact HO2.out), HB2⟩
            case measure => have := HLT.out; simp [intOf]; omega
        · obtain rfl : j = l.length := by omega
          have HZZ := Lib.hid (show w.heap.size ≤ N by rw [HN.out]; exact HM.out.size)
          obtain ⟨oa, oc, rfl, _⟩ := owns_shape HO.out
          go_wp2_with fail
          go_ret
          exact ⟨⟨.slice oa (idxT l J l.length).length oc, rfl, by rw [← HJE.out]; exact owns_base HO.out HZZ.out⟩, HMW.out.below⟩
end Go.Proofs.YtemeppfikpafbaaGreat
