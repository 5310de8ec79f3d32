/- The law's causes (21). -/
import Derived.Test.YtemeppfikpafbaaGreatFew
namespace Go.Proofs.YtemeppfikpafbaaGreat
open Go.RowKit
theorem info30 : (Tryz.prog.info? 34).map (fun i => (i.zero, i.size, i.bytes)) = some (some (.agg #[.slice none 0 0, .slice none 0 0]), 2, 48) := by kernel_rfl
set_option maxRecDepth 100000 in
set_option maxHeartbeats 2000000 in
theorem causes_any (l : List Cau) (v : Value) (w : World) (hl : l.length ≤ 1000) (h : CRow w l v) :
    Calls Tryz.prog 8 #[v] w fun e w' => (∃ v', e = .returned v' ∧ CRow w' l v') ∧ Below w.heap.size w w' := by
  obtain ⟨a, cap, rfl, _⟩ := h.shape
  have HR := Lib.hid h; clear h
  obtain ⟨i0, hi0, hz0, hz1, hz2⟩ := info_parts info30
  obtain ⟨N, hN⟩ : ∃ N, N = w.heap.size := ⟨_, rfl⟩
  have HN := Lib.hid hN
  rw [← hN]
  go_enter Tryz.func8, Tryz.ntmps8
  go_wp2_with fail
  clear hN
  go_loopw [3, 8] (fun v i wr => ∃ (j : Nat) (vs : List (Value × Value)), j ≤ l.length ∧ i = .int .i64 j ∧ Hid (Below N w wr) ∧ Hid (CVs w (l.take j) vs) ∧ Hid (wr.ownsRow N 34 2 v vs.length (flatC pC vs))) (fun _ i _ => l.length - (intOf i).toNat)
  case atStart => exact ⟨0, [], Nat.zero_le _, rfl, Lib.hid (Below.refl _ _), Lib.hid (CVs.nil _), Lib.hid (World.ownsRow_nil _ _ _ _)⟩
  case round =>
    obtain ⟨j, vs, hj, rfl, HB, HV, HO⟩ := hrel
    have HBW := Lib.hid (show Below w.heap.size w wr by rw [← HN.out]; exact HB.out)
    have HNW := Lib.hid (show N ≤ wr.heap.size by rw [HN.out]; exact HBW.out.size)
    by_cases hlt : j < l.length
    · obtain ⟨b, off, ua, uc, ha, hc, rfl, g0, g1, hcu, hch, hn1, hn2⟩ := HR.out.at' hlt
      have g0 := below_cell HBW.out g0
      have g1 := below_cell HBW.out g1
      have HT := Lib.hid (show l.take (j + 1) = l.take j ++ [l[j]] from List.take_succ_eq_append_getElem hlt)
      have HVL := Lib.hid (show vs.length ≤ 1000 by rw [HV.out.1, List.length_take]; omega)
      generalize l[j] = c at *
      have HU := Lib.hid hcu
      have HH := Lib.hid hch
      have HN12 := Lib.hid (And.intro hn1 hn2)
      clear hcu hch hn1 hn2
      generalize hnu : c.undo.length = nu at *
      generalize hnh : c.hold.length = nh at *
      have HNU := Lib.hid hnu
      have HNH := Lib.hid hnh
      clear hnu hnh
      have hbg := cell_lt g0
      obtain ⟨oa, ocap, rfl, _⟩ := owns_shape HO.out
      have hm1 : vs.length + 1 ≤ maxLen := by unfold maxLen; have := HVL.out; omega
      have hm2 : (vs.length + 1) * 48 ≤ 140737488355328 := by have := HVL.out; omega
      have hnw := HNW.out
      go_upto_region 5 with (fail)
      have HB1 := Lib.hid (HB.out.alloc HNW.out (.cells #[.slice ua nu uc, .slice ha nh hc] 66))
      have HO1 := Lib.hid (owns_keep HO.out (fun z hz => Below.heap_alloc wr (.cells #[.slice ua nu uc, .slice ha nh hc] 66) _ ((owns_shape HO.out).choose_spec.choose_spec.2 z hz).2))
      have HN1 := Lib.hid (show N ≤ (wr.alloc (.cells #[.slice ua nu uc, .slice ha nh hc] 66)).heap.size by rw [World.size_alloc]; omega)
      have HX := Lib.hid (alloc_last wr (.cells #[.slice ua nu uc, .slice ha nh hc] 66))
      clear g0 g1 hbg hnw
      generalize wr.alloc (.cells #[.slice ua nu uc, .slice ha nh hc] 66) = w1 at *
      generalize wr.heap.size = XB at *
      have x0 : w1.cell? ⟨XB, 0, none⟩ = some (.slice ua nu uc) := cell_of_blk HX.out rfl
      have x1 : w1.cell? ⟨XB, 1, none⟩ = some (.slice ha nh hc) := cell_of_blk HX.out rfl
      have hnd := HN1.out
      go_wp2_with (at_builtin; refine wpList_append_own _ rfl _ _ 25 rfl N 34 i0 _ 2 48 Tryz.underlying25 hi0 hz0 hz1 hz2 rfl (by omega) (.slice oa vs.length ocap) vs.length (flatC pC vs) rfl (owns_keep HO1.out (fun z hz => Below.heap_alloc w1 _ _ ((owns_shape HO1.out).choose_spec.choose_spec.2 z hz).2)) ⟨w1.heap.size, 0, none⟩ 1 1 [.slice ua nu uc, .slice ha nh hc] rfl rfl (World.news_of_block (cs := #[.slice ua nu uc, .slice ha nh hc]) (t := 34) (fr := (0, 0)) (alloc_last _ _)) (by simp [Value.oneCell']) hm1 hm2 (by rw [World.size_alloc]; omega) ?_; intro v6 w6 hown6 hgrow6 _)
      have HB6 := Lib.hid ((HB1.out.alloc hnd _).grown hgrow6 (by rw [World.size_alloc]; omega) (fun z hz => ((owns_shape HO1.out).choose_spec.choose_spec.2 z hz).1))
      have HO6 := Lib.hid hown6
      clear hown6 hgrow6 x0 x1
      go_wp2_with fail
      go_roundw
      case rel =>
        refine ⟨j + 1, vs ++ [(.slice ua nu uc, .slice ha nh hc)], by omega, by go_num, HB6, Lib.hid ?_, Lib.hid ?_⟩
        · rw [HT.out]
          exact HV.out.push (by rw [HNU.out]; exact HU.out) (by rw [HNH.out]; exact HH.out) (fun n c => ⟨fun e => by cases e; exact HN12.out.1 rfl, fun e => by cases e; exact HN12.out.2 rfl⟩)
        · rw [flatC_push, List.length_append]
          exact HO6.out
      case measure => simp [intOf]; omega
    · obtain rfl : j = l.length := by omega
      rw [List.take_of_length_le (Nat.le_refl _)] at HV
      have HFIN := Lib.hid ((HV.out.below HBW.out).row HO.out)
      go_wp2_with fail
      go_ret
      exact ⟨⟨_, rfl, HFIN.out⟩, HB.out⟩
end Go.Proofs.YtemeppfikpafbaaGreat
