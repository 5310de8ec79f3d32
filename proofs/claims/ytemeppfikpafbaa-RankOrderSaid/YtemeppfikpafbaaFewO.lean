/- The law's few (20), its elements in an older world. -/
import Derived.Test.YtemeppfikpafbaaFew
namespace Go.Proofs.Ytemeppfikpafbaa
open Go.RowKit
/-- The cause at a place: the row in one world, its elements in another. -/
theorem CVs.at2 {w0 w : World} {l : List Cau} {vs : List (Value × Value)} (h : CVs w0 l vs) {a : Option Addr} {len cap : Nat} (hr : Row anyB w 2 l.length (.slice a len cap) (flatC pC vs)) {i : Nat} (hi : i < l.length) :
    ∃ b off ua uc ha hc, a = some ⟨b, off, none⟩ ∧ w.cell? ⟨b, off + i * 2, none⟩ = some (.slice ua l[i].undo.length uc) ∧ w.cell? ⟨b, off + i * 2 + 1, none⟩ = some (.slice ha l[i].hold.length hc)
      ∧ Row anyB w0 4 l[i].undo.length (.slice ua l[i].undo.length uc) (flatC kC l[i].undo) ∧ Row anyB w0 3 l[i].hold.length (.slice ha l[i].hold.length hc) (flatC mC l[i].hold) ∧ (ua = none → uc = 0) ∧ (ha = none → hc = 0) := by
  obtain ⟨h1, h3⟩ := h
  have hi' : i < vs.length := by omega
  rw [← h1] at hr
  obtain ⟨b, off, rfl, _, hc⟩ := hr.atC pC_len hi'
  obtain ⟨⟨hu, hh⟩, hnz⟩ := h3 i hi hi'
  obtain ⟨ua, uc, eu, _⟩ := hu.shape
  obtain ⟨ha, hcp, eh, _⟩ := hh.shape
  have g0 := hc 0 vs[i].1 rfl
  have g1 := hc 1 vs[i].2 rfl
  rw [eu] at hu g0
  rw [eh] at hh g1
  rw [Nat.add_zero] at g0
  exact ⟨b, off, ua, uc, ha, hcp, rfl, g0, g1, hu, hh, fun e => (hnz _ uc).1 (by rw [eu, e]), fun e => (hnz _ hcp).2 (by rw [eh, e])⟩
set_option maxRecDepth 100000 in
set_option maxHeartbeats 2000000 in
theorem few_own (l : List Cau) (v : Value) (w : World) (_hl : l.length ≤ maxLen) (hlen : ∀ c ∈ l, c.undo.length ≤ maxLen ∧ c.hold.length ≤ maxLen) (w0 : World) (vs0 : List (Value × Value)) (h0 : CVs w0 l vs0) (h : Row anyB w 2 l.length v (flatC pC vs0)) :
    Calls Try.prog 20 #[v] w fun e w' => (∃ v' vs, e = .returned v' ∧ CVs w0 (fewL l) vs ∧ w'.ownsRow w.heap.size 36 2 v' vs.length (flatC pC vs)) ∧ Below w.heap.size w w' := by
  obtain ⟨a, cap, rfl, _⟩ := h.shape
  have HR := Lib.hid h; clear h
  have HV0 := Lib.hid h0; clear h0
  have HLEN := Lib.hid hlen; clear hlen
  obtain ⟨i0, hi0, hz0, hz1, hz2⟩ := info_parts info36
  obtain ⟨N, hN⟩ : ∃ N, N = w.heap.size := ⟨_, rfl⟩
  have HN := Lib.hid hN
  rw [← hN]
  go_enter Try.func20, Try.ntmps20
  go_wp2_with fail
  clear hN
  go_loopw [3, 4] (fun v i wr => ∃ (j : Nat) (vs : List (Value × Value)), j ≤ l.length ∧ j ≤ 8 ∧ i = .int .i64 j ∧ Hid (Below N w wr) ∧ Hid (CVs w0 ((l.take j).map Cau.cut) vs) ∧ Hid (wr.ownsRow N 36 2 v vs.length (flatC pC vs))) (fun _ i _ => l.length - (intOf i).toNat)
  case atStart => exact ⟨0, [], Nat.zero_le _, Nat.zero_le _, rfl, Lib.hid (Below.refl _ _), Lib.hid (CVs.nil _), Lib.hid (World.ownsRow_nil _ _ _ _)⟩
  case round =>
    obtain ⟨j, vs, hj, hj8, rfl, HB, HV, HO⟩ := hrel
    have HBW := Lib.hid (show Below w.heap.size w wr by rw [← HN.out]; exact HB.out)
    have HNW := Lib.hid (show N ≤ wr.heap.size by rw [HN.out]; exact HBW.out.size)
    by_cases hlt : j < l.length ∧ j < 8
    · obtain ⟨hlt, hlt8⟩ := hlt
      have hlt8' : (j : Int) < 8 := by omega
      obtain ⟨b, off, ua, uc, ha, hc, rfl, g0, g1, hcu, hch, hn1, hn2⟩ := HV0.out.at2 HR.out hlt
      have HG := Lib.hid (And.intro g0 g1)
      have g0 := below_cell HBW.out g0
      have g1 := below_cell HBW.out g1
      have HL := Lib.hid (HLEN.out _ (List.getElem_mem hlt))
      have HT := Lib.hid (show (l.take (j + 1)).map Cau.cut = (l.take j).map Cau.cut ++ [l[j].cut] by rw [List.take_succ_eq_append_getElem hlt, List.map_append]; rfl)
      generalize l[j] = c at *
      have HVL := Lib.hid (show vs.length ≤ 8 by rw [HV.out.1, List.length_map, List.length_take]; omega)
      obtain ⟨_, uc', eu, huc⟩ := hcu.shape
      obtain ⟨_, hc', eh, hhc⟩ := hch.shape
      cases eu; cases eh
      have hpu : (c.undo.take 4).length ≤ c.undo.length := by rw [List.length_take]; exact Nat.min_le_right _ _
      have hph : (c.hold.take 4).length ≤ c.hold.length := by rw [List.length_take]; exact Nat.min_le_right _ _
      have HU := Lib.hid (hcu.takeAny kC_len 4)
      have HH := Lib.hid (hch.takeAny mC_len 4)
      have hs1 := slice27 ua c.undo.length uc (c.undo.take 4).length hpu huc hn1
      have hs2 := slice28 ha c.hold.length hc (c.hold.take 4).length hph hhc hn2
      have hmn1 : min (c.undo.length : Int) 4 = ((c.undo.take 4).length : Int) := by rw [List.length_take]; omega
      have hmn2 : min (c.hold.length : Int) 4 = ((c.hold.take 4).length : Int) := by rw [List.length_take]; omega
      have HC := Lib.hid (show c.cut = ⟨c.undo.take 4, c.hold.take 4⟩ from rfl)
      have HN12 := Lib.hid (And.intro hn1 hn2)
      have hlu := HL.out.1
      have hlh := HL.out.2
      unfold maxLen at hlu hlh
      clear hcu hch hn1 hn2
      generalize c.undo.take 4 = U at *
      generalize c.hold.take 4 = V at *
      generalize c.undo.length = nu at *
      generalize c.hold.length = nh at *
      have hbg := cell_lt g0
      have hu1 : ((U.length : Nat) : Int) ≤ nu := by omega
      have hv1 : ((V.length : Nat) : Int) ≤ nh := by omega
      obtain ⟨oa, ocap, rfl, _⟩ := owns_shape HO.out
      have hm1 : vs.length + 1 ≤ maxLen := by unfold maxLen; have := HVL.out; omega
      have hm2 : (vs.length + 1) * 48 ≤ 140737488355328 := by have := HVL.out; omega
      go_upto_region 5 with (fail)
      have hnw := HNW.out
      have HBA := Lib.hid (show Below N w (wr.alloc (.cells #[.slice ua U.length uc, .slice ha V.length hc] 36)).drew from (HB.out.alloc HNW.out (.cells #[.slice ua U.length uc, .slice ha V.length hc] 36)).trans (below_drewN _ 1 N))
      have HOWN := Lib.hid (fun z hz => ((owns_shape HO.out).choose_spec.choose_spec.2 z hz).1)
      have HOA := Lib.hid (owns_keep HO.out (fun z hz => Below.heap_alloc wr (.cells #[.slice ua U.length uc, .slice ha V.length hc] 36) _ ((owns_shape HO.out).choose_spec.choose_spec.2 z hz).2))
      have HNA := Lib.hid (show N ≤ (wr.alloc (.cells #[.slice ua U.length uc, .slice ha V.length hc] 36)).heap.size by rw [World.size_alloc]; omega)
      have k0 := alloc_cell (.cells #[.slice ua U.length uc, .slice ha V.length hc] 36) g0
      have k1 := alloc_cell (.cells #[.slice ua U.length uc, .slice ha V.length hc] 36) g1
      have HKEEP := Lib.hid (show ∀ W, Below N w W → W.cell? ⟨b, off + j * 2, none⟩ = some (.slice ua nu uc) ∧ W.cell? ⟨b, off + j * 2 + 1, none⟩ = some (.slice ha nh hc) from fun W h => by
        have h' : Below w.heap.size w W := by rw [← HN.out]; exact h
        exact ⟨below_cell h' HG.out.1, below_cell h' HG.out.2⟩)
      have HBd := Lib.hid (show Below N w wr.drew from HB.out.trans (below_drewN wr 1 N))
      have HB6 := HBA
      go_region_held3 (fun W => W.cell? ⟨b, off + j * 2, none⟩ = some (.slice ua nu uc) ∧ W.cell? ⟨b, off + j * 2 + 1, none⟩ = some (.slice ha nh hc)) (first | (with_reducible exact HKEEP.out _ HBd.out) | (with_reducible exact HKEEP.out _ HBA.out) | (with_reducible exact HKEEP.out _ HB6.out))
        ((refine step_append_lies _ (by rfl) _ _ _ (by rfl) N 36 i0 _ 2 48 Try.underlying22 hi0 hz0 hz1 hz2 (by rfl) (by omega) (.slice oa vs.length ocap) vs.length (flatC pC vs) (by rfl) HOA.out ⟨wr.heap.size, 0, none⟩ 1 1 [.slice ua U.length uc, .slice ha V.length hc] (by rfl) (by rfl) (World.news_of_block (cs := #[.slice ua U.length uc, .slice ha V.length hc]) (t := 36) (fr := (0, 0)) (alloc_last wr _)) (by simp [Value.oneCell']) (by omega) hm1 hm2 HNA.out (wr.heap.size + 1) (by simp) ?_; intro gg cap6 w6 hown6 hgrow6 hat6 hlt6; have HB6 := Lib.hid (HBA.out.grown hgrow6 HNA.out HOWN.out)))
      all_goals
        clear k0 k1 g0 g1 hs1 hs2 hmn1 hmn2
        have HO6 := Lib.hid hown6
        clear hown6 hgrow6
        go_wp2_with fail
        go_roundw
        case rel =>
          refine ⟨j + 1, vs ++ [(.slice ua U.length uc, .slice ha V.length hc)], by omega, by omega, by go_num, HB6, Lib.hid ?_, Lib.hid ?_⟩
          · rw [HT.out, HC.out]
            exact HV.out.push HU.out HH.out (fun n c => ⟨fun e => by cases e; exact HN12.out.1 rfl, fun e => by cases e; exact HN12.out.2 rfl⟩)
          · rw [flatC_push, List.length_append]
            exact HO6.out
        case measure => simp [intOf]; omega
    · have HEQ := Lib.hid (show (l.take j).map Cau.cut = fewL l by
        unfold fewL
        by_cases h : j = l.length
        · rw [h, List.take_of_length_le (Nat.le_refl _), List.take_of_length_le (by omega)]
        · rw [show j = 8 by omega])
      by_cases hj1 : j < l.length
      · have h8 : (8 : Int) ≤ (j : Int) := by omega
        clear hlt
        go_wp2_with fail
        go_ret
        exact ⟨⟨_, vs, rfl, by rw [← HEQ.out]; exact HV.out, HO.out⟩, HB.out⟩
      · have h8 : (l.length : Int) ≤ (j : Int) := by omega
        clear hlt
        go_wp2_with fail
        go_ret
        exact ⟨⟨_, vs, rfl, by rw [← HEQ.out]; exact HV.out, HO.out⟩, HB.out⟩
end Go.Proofs.Ytemeppfikpafbaa
