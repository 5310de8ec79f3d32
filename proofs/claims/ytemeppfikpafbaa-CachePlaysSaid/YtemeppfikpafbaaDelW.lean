/- slices.Delete of the first entry of the cache (85). -/
import Derived.Test.YtemeppfikpafbaaClrZ
namespace Go.Proofs.Ytemeppfikpafbaa
open Go.RowKit
def zE : Value := .agg #[.slice none 0 0, .slice none 0 0, .slice none 0 0, .bool false]
theorem zero148 (w : World) : (zeroValue 148).run Try.prog w = .ok zE w := by kernel_rfl
theorem infoD148 : (Try.prog.info? 148).map (fun i => (i.zero, i.size, i.bytes)) = some (some (.agg #[.slice none 0 0, .slice none 0 0, .slice none 0 0, .bool false]), 4, 80) := by kernel_rfl
theorem zE_cells : zE.cells.toList = [.slice none 0 0, .slice none 0 0, .slice none 0 0, .bool false] := by
  simp [zE, Value.cells]
set_option maxRecDepth 100000 in
set_option maxHeartbeats 4000000 in
theorem delete_any (B n g cap : Nat) (xs : List Value) (w : World) (hn : 0 < n) (hnl : n ≤ 1000) (h1 : ∀ u ∈ xs, u.oneCell' = true) (hown : w.ownsRow B 148 4 (.slice (some ⟨g, 0, none⟩) n cap) n xs) :
    Calls Try.prog 85 #[.slice (some ⟨g, 0, none⟩) n cap, .int .i64 0, .int .i64 1] w fun e w' => e = .returned (.slice (some ⟨g, 0, none⟩) (n - 1) cap) ∧ w'.ownsRow B 148 4 (.slice (some ⟨g, 0, none⟩) (n - 1) cap) (n - 1) (xs.drop 4) ∧ w.grownBy w' (some g) := by
  obtain ⟨hBg, hnc, cur, hg, hcs, htk, hcm⟩ := owns_cells hown
  have hxl : xs.length = n * 4 := hown.1
  clear hown
  obtain ⟨m, rfl⟩ : ∃ m, n = m + 1 := ⟨n - 1, by omega⟩
  rw [Nat.add_sub_cancel]
  obtain ⟨i0, hi0, hz0, hz1, hz2⟩ := info_parts infoD148
  obtain ⟨news, hnews⟩ : ∃ news, news = xs.drop 4 := ⟨_, rfl⟩
  have hnl' : news.length = m * 4 := by rw [hnews, List.length_drop]; omega
  have hcur : ∀ i u, xs[i]? = some u → cur[i]? = some u := fun i u hu => by
    rw [← htk, List.getElem?_take] at hu
    split at hu
    · rw [← Array.getElem?_toList]; exact hu
    · cases hu
  obtain ⟨A, hA, hsrc⟩ : ∃ A : Addr, (∀ W, (Instr.slice 144 (.slice (some ⟨g, 0, none⟩) (m + 1) cap) (some (.int .i64 1)) none none).run Try.prog W = .ok (.slice (some A) m (cap - 1)) W) ∧ Hid (∀ j u, news[j]? = some u → w.drew.cell? (A.add j) = some u) := by
    by_cases e : cap = 1
    · subst e
      obtain rfl : m = 0 := by omega
      refine ⟨⟨g, 0, none⟩, fun W => by simp [go_sem, sliced], fun j u hu => ?_⟩
      rw [List.length_eq_zero_iff.1 hnl'] at hu; simp at hu
    · refine ⟨⟨g, 0 + 1 * 4, none⟩, fun W => ?_, fun j u hu => ?_⟩
      · simp [go_sem, sliced]
        rw [if_pos (by omega), if_neg e]
      · rw [Addr.add_lit]
        rw [hnews, List.getElem?_drop] at hu
        have h2 := cell_of_blk hg (hcur _ _ hu)
        show w.cell? _ = some u
        rw [show 0 + 1 * 4 + j = 4 + j by omega]; exact h2
  have hs0 : ∀ W, (Instr.slice 144 (.slice (some ⟨g, 0, none⟩) (m + 1) cap) none (some (.int .i64 0)) none).run Try.prog W = .ok (.slice (some ⟨g, 0, none⟩) 0 cap) W := fun W => by simp [go_sem, sliced]
  have HX1 := Lib.hid (show ∀ u ∈ news, u.oneCell' = true from fun u hu => h1 u (by rw [hnews] at hu; exact List.mem_of_mem_drop hu))
  have HNL := Lib.hid hnl'
  have HNW := Lib.hid hnews
  have HCL := Lib.hid (Nat.le_of_succ_le hnc)
  have HSP := Lib.hid (show ∀ j, j < news.length → (w.drew.cell? ⟨g, 0 + 0 * 4 + j, none⟩).isSome = true ∧ w.drew.frozen? ⟨g, 0 + 0 * 4 + j, none⟩ = false from fun j hj => by
    have hj' : j < cur.size := by rw [hcs]; omega
    rw [show 0 + 0 * 4 + j = j by omega]
    have h2 := cell_of_blk hg (Array.getElem?_eq_getElem hj')
    exact ⟨by show (w.cell? _).isSome = true; rw [h2]; rfl, thaw hg j⟩)
  obtain ⟨W1, hW1⟩ : ∃ W1, W1 = w.drew.setCells g (0 + 0 * 4) news := ⟨_, rfl⟩
  have hg1 : W1.heap[g]? = some (.cells (news ++ cur.toList.drop (m * 4)).toArray 148) := by
    have := setCells_heap g 148 news (0 + 0 * 4) w.drew cur hg (by rw [hnl', hcs]; omega)
    rw [hW1, this, hnl']
    simp
  have HG1 := Lib.hid hg1
  have HW := Lib.hid hW1
  have hsz : (news ++ cur.toList.drop (m * 4)).toArray.size = cap * 4 := by
    have e : (news ++ cur.toList.drop (m * 4)).toArray.size = news.length + (cur.size - m * 4) := by simp
    rw [e, hnl', hcs]; omega
  have HSZ := Lib.hid hsz
  have HGR := Lib.hid (show w.grownBy W1 (some g) by rw [hW1]; exact grownBy_trans (b := w.drew) (grownBy_drewN w 1 _) (setCells_grown _ _ _ _))
  have hcl : ∀ ty, (Builtin.clear_ #[144] ty #[.slice (some ⟨g, m * 4, none⟩) 1 (cap - m)]).run Try.prog W1 = .ok (.tuple #[]) (W1.setCells g (m * 4) (Builtin.zeroCells zE.cells 1).toList) := fun ty =>
    run_clear_cells W1 144 148 ty zE Try.underlying144 zero148 4 (by simp [zE, Value.cells]) (by rw [zE_cells]; simp [Value.oneCell']) g (m * 4) 1 (cap - m) (by omega) (fun j hj => by
      have hj' : m * 4 + j < (news ++ cur.toList.drop (m * 4)).toArray.size := by rw [hsz]; omega
      rw [cell_of_blk hg1 (Array.getElem?_eq_getElem hj')]; rfl) (fun j _ => thaw hg1 _)
  rw [zero_one, zE_cells] at hcl
  have HBG := Lib.hid hBg
  have HCM := Lib.hid hcm
  clear hxl htk hcur hnews hg hg1 hW1 hsz hnl' hBg hcm h1
  go_enter Try.func85, Try.ntmps85
  go_wp2_with fail
  go_region_law (refine step_append_room rfl (.tmp 22) (.tmp 25) 144 rfl 148 i0 4 Try.underlying144 hi0 hz1 g 0 0 cap (by simp [Act.eval, Act.put]) A m (cap - 1) news (by simp [Act.eval, Act.put]) HNL.out hsrc.out HX1.out (by omega) HSP.out ?_; rw [← HW.out])
  go_wp2_with fail
  go_ret
  have hfin := setCells_heap g 148 [.slice none 0 0, .slice none 0 0, .slice none 0 0, .bool false] (m * 4) W1 _ HG1.out (by rw [HSZ.out]; show m * 4 + 4 ≤ cap * 4; omega)
  refine ⟨rfl, ?_, grownBy_trans HGR.out (setCells_grown _ _ _ _)⟩
  have hln := HNL.out
  have hc1 := HCL.out
  have ho := owns_of (n := m) (cap := cap) (size := 4) HBG.out hfin hc1 (by
    have hsz := HSZ.out
    rw [List.size_toArray] at hsz
    simp only [List.size_toArray, List.length_append, List.length_take, List.length_drop, List.length_cons, List.length_nil] at hsz ⊢
    omega) HCM.out
  rw [← HNW.out]
  have e : ∀ (l z d : List Value), l.length = m * 4 → ((l ++ z ++ d).take (m * 4)) = l := fun l z d h => by rw [List.append_assoc, List.take_append_of_le_length (by omega), List.take_of_length_le (by omega)]
  have e2 : (news ++ cur.toList.drop (m * 4)).toArray.toList.take (m * 4) = news := by
    have := e news (cur.toList.drop (m * 4)) [] hln
    simpa using this
  rw [e2, e news _ _ hln] at ho
  exact ho
end Go.Proofs.Ytemeppfikpafbaa
