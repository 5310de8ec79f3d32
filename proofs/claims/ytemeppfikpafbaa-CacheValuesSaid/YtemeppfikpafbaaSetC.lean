/- The law's set (38). -/
import Derived.Test.YtemeppfikpafbaaCho3
namespace Go.Proofs.Ytemeppfikpafbaa
open Go.RowKit Go.Sort Go.Shelf
def tK (k : K4) : Int := k.a + 4 * k.n
theorem tK_key (i : Nat) : tK (keyI i) = i := by
  unfold tK keyI
  simp only
  omega
theorem withT_keys (o : List Nat) : withT tK (o.map keyI) = o.map chI := by
  unfold withT
  rw [List.map_map]
  refine List.map_congr_left fun i _ => ?_
  simp only [Function.comp, tK_key]
  rfl
theorem up16_nodup : up16.Nodup := by decide
theorem keys_nodup (b : Nat) : ((pick up16 b).map keyI).Nodup := by
  have h : (pick up16 b).Nodup := List.Pairwise.filter _ up16_nodup
  rw [List.Nodup, List.pairwise_map]
  exact h.imp fun hne e => hne (keyI_inj e)
theorem set_sorted (b : Nat) : withT tK (srtK ((pick up16 b).map keyI)) = setCh b := by
  refine asc_unique ltC_irrefl ltC_trans (withT_asc tK (keys_nodup b)) (setCh_asc b) fun x => ?_
  unfold withT srtK
  rw [List.mem_map, mem_setCh]
  constructor
  · rintro ⟨k, hk, rfl⟩
    obtain ⟨i, hi, rfl⟩ := List.mem_map.1 (List.mem_mergeSort.1 hk)
    obtain ⟨h1, h2⟩ := (mem_pick mem_up16).1 hi
    exact ⟨i, h1, h2, by rw [tK_key]; rfl⟩
  · rintro ⟨i, h1, h2, rfl⟩
    exact ⟨keyI i, List.mem_mergeSort.2 (List.mem_map_of_mem ((mem_pick mem_up16).2 ⟨h1, h2⟩)), by rw [tK_key]; rfl⟩
theorem setCh_length (b : Nat) : (setCh b).length = (pick up16 b).length := by
  rw [← set_sorted, withT_len]
  unfold srtK
  rw [List.length_mergeSort, List.length_map]
set_option maxRecDepth 100000 in
set_option maxHeartbeats 2000000 in
theorem set_any (b : Nat) (w : World) :
    Calls Try.prog 38 #[.int .u16 b] w fun e w' => (∃ v, e = .returned (.agg #[v]) ∧ w'.ownsRow w.heap.size 113 7 v (setCh b).length (flatC chC (setCh b))) ∧ Below w.heap.size w w' := by
  obtain ⟨i0, hi0, hz0, hz1, hz2⟩ := info_parts info113
  have HPK := Lib.hid (pick_len (o := up16) rfl b)
  go_enter Try.func38, Try.ntmps38
  go_wp2_with fail
  have HRB := Lib.hid (alloc_last w (.cells #[.slice none 0 0] 73))
  have HM2 := Lib.hid (more_alloc w (.cells #[.slice none 0 0] 73))
  obtain ⟨RB, HRR⟩ : ∃ RB, Hid (RB = w.heap.size) := ⟨_, Lib.hid rfl⟩
  rw [← HRR.out] at HRB ⊢
  generalize w.alloc (.cells #[.slice none 0 0] 73) = w2 at *
  obtain ⟨N, HN⟩ : ∃ N, Hid (N = w2.heap.size) := ⟨_, Lib.hid rfl⟩
  go_loopw [3, 7] (fun v i wr => ∃ j : Nat, j ≤ 16 ∧ i = .int .i64 j ∧ Hid (Below N w2 wr) ∧ Hid (wr.ownsRow N 113 7 v (pick (up16.take j) b).length (flatC chC ((pick (up16.take j) b).map chI)))) (fun _ i _ => 16 - (intOf i).toNat)
  case atStart => exact ⟨0, Nat.zero_le _, rfl, Lib.hid (Below.refl _ _), Lib.hid (World.ownsRow_nil _ _ _ _)⟩
  case round =>
    obtain ⟨j, hj, rfl, HB, HO⟩ := hrel
    obtain ⟨oa, ocap, rfl, _⟩ := owns_shape HO.out
    have HNW := Lib.hid (show N ≤ wr.heap.size by rw [HN.out]; exact HB.out.size)
    by_cases hlt : j < 16
    · have HPS := Lib.hid (pick_step up16 b j (show j < up16.length from hlt))
      have HUJ := Lib.hid (show up16[j]'(show j < up16.length from hlt) = j from ord16_get false j hlt)
      rw [HUJ.out] at HPS
      have HPL := Lib.hid (show (pick (up16.take j) b).length ≤ 16 by unfold pick; exact Nat.le_trans (List.length_filter_le _ _) (by rw [List.length_take]; omega))
      have hlt' : (j : Int) < 16 := by omega
      generalize pick (up16.take j) b = l at *
      have hm1 : l.length + 1 ≤ maxLen := by unfold maxLen; have := HPL.out; omega
      have hm2 : (l.length + 1) * 72 ≤ 140737488355328 := by have := HPL.out; omega
      obtain ⟨p, hp⟩ : ∃ p : Nat, j % 4 = p := ⟨_, rfl⟩
      obtain ⟨q, hq⟩ : ∃ q : Nat, j / 4 = q := ⟨_, rfl⟩
      have HMI := Lib.hid (show chC (chI j) = [.int .u8 4, .int .i64 p, .int .i64 0, .int .i64 q, .int .i64 j, .int .i64 0, .slice none 0 0] by unfold chC chI keyI; simp only [hp, hq])
      have HKC := Lib.hid (show ∀ W, Calls Try.prog 54 #[.int .i64 j] W fun e w' => e = .returned (.agg #[.int .u8 4, .int .i64 p, .int .i64 0, .int .i64 q]) ∧ Lay W w' from fun W => by
        have := key54_any j W hlt
        rw [show kA (keyI j) = .agg #[.int .u8 4, .int .i64 p, .int .i64 0, .int .i64 q] by unfold kA keyI; simp only [hp, hq]] at this
        exact this)
      have hbt := bit_tmod b j
      clear hp hq
      by_cases hbit : b.testBit j = true
      · rw [if_pos hbit] at hbt HPS
        clear hbit
        go_wp2_with fail
        refine (HKC.out _).mono ?_
        rintro e w5 ⟨rfl, hl5⟩
        have HO1 := Lib.hid (fun o => owns_keep (w' := w5.alloc o) HO.out (fun z hz => (Below.heap_alloc w5 _ _ (Nat.lt_of_lt_of_le ((owns_shape HO.out).choose_spec.choose_spec.2 z hz).2 hl5.1.size)).trans (hl5.1.block ((owns_shape HO.out).choose_spec.choose_spec.2 z hz).2)))
        have HB1 := Lib.hid (fun o => (HB.out.trans (hl5.1.below.mono HNW.out)).alloc (Nat.le_trans HNW.out hl5.1.size) o)
        have hnd := Nat.le_trans HNW.out hl5.1.size
        clear hl5
        go_wp2_with (at_builtin; refine wpList_append_own _ rfl _ _ 71 rfl N 113 i0 _ 7 72 Try.underlying71 hi0 hz0 hz1 hz2 rfl (by omega) (.slice oa l.length ocap) l.length (flatC chC (l.map chI)) rfl (HO1.out _) ⟨w5.heap.size, 0, none⟩ 1 1 [.int .u8 4, .int .i64 p, .int .i64 0, .int .i64 q, .int .i64 j, .int .i64 0, .slice none 0 0] rfl rfl (World.news_of_block (cs := #[.int .u8 4, .int .i64 p, .int .i64 0, .int .i64 q, .int .i64 j, .int .i64 0, .slice none 0 0]) (t := 113) (fr := (0, 0)) (alloc_last _ _)) (by simp [Value.oneCell']) hm1 hm2 (by rw [World.size_alloc]; omega) ?_; intro v6 w6 hown6 hgrow6 _)
        have HB6 := Lib.hid ((HB1.out _).grown hgrow6 (by rw [World.size_alloc]; omega) (fun z hz => ((owns_shape HO.out).choose_spec.choose_spec.2 z hz).1))
        have HO6 := Lib.hid hown6
        clear hown6 hgrow6
        go_wp2_with fail
        go_roundw
        case rel => exact ⟨j + 1, by omega, by go_num, HB6, Lib.hid (by rw [HPS.out, List.map_append, List.length_append, List.map_singleton, flatC_push, HMI.out]; exact HO6.out)⟩
        case measure => simp [intOf]; omega
      · rw [if_neg hbit] at hbt HPS
        clear hbit
        go_wp2_with fail
        go_roundw
        case rel => exact ⟨j + 1, by omega, by go_num, HB, Lib.hid (by rw [HPS.out, List.append_nil]; exact HO.out)⟩
        case measure => simp [intOf]; omega
    · obtain rfl : j = 16 := by omega
      have HE := Lib.hid (show up16.take 16 = up16 from rfl)
      rw [HE.out] at HO ⊢
      have HSL := Lib.hid (setCh_length b)
      have HRW := Lib.hid ((Row.of_owns HO.out).mono (S' := anyB) (fun _ _ => trivial) (fun _ _ _ _ h => h))
      have HNEW := Lib.hid (new_any ((pick up16 b).map keyI) tK (.slice oa (pick up16 b).length ocap) wr (by rw [List.length_map]; have := HPK.out; omega) (keys_nodup b) (by
        rw [withT_keys]
        intro x hx
        obtain ⟨i, hi, rfl⟩ := List.mem_map.1 hx
        exact chI_ok ((mem_pick mem_up16).1 hi).1) (by rw [withT_keys, List.length_map]; exact HRW.out))
      rw [set_sorted, List.length_map, ← HSL.out] at HNEW
      rw [← HSL.out]
      have HNX := Lib.hid (show Below w2.heap.size w2 wr from by rw [← HN.out]; exact HB.out)
      clear hlt hj
      go_wp2_with fail
      refine HNEW.out.mono ?_
      rintro e w3 ⟨⟨v3, rfl, ho3⟩, hb3⟩
      have HO3 := Lib.hid ho3
      have HB3 := Lib.hid (show Below w.heap.size w w3 from (more_trans HM2.out (more_trans (more_of HNX.out) (more_of hb3))).below)
      have HR3 := Lib.hid (((more_trans (more_of HNX.out) (more_of hb3)).block (blk_lt HRB.out)).trans HRB.out)
      have HOM := Lib.hid (fun z hz => ((owns_shape ho3).choose_spec.choose_spec.2 z hz).1)
      have HNB := Lib.hid (show RB < wr.heap.size from Nat.lt_of_lt_of_le (blk_lt HRB.out) HNX.out.size)
      obtain ⟨va, vcap, rfl, _⟩ := owns_shape ho3
      clear ho3 hb3
      have HXA := Lib.hid (more_alloc w3 (.cells #[.slice va (setCh b).length vcap] 73))
      have HXB := Lib.hid (alloc_last w3 (.cells #[.slice va (setCh b).length vcap] 73))
      have HR4 := Lib.hid ((HXA.out.block (blk_lt HR3.out)).trans HR3.out)
      have HO4 := Lib.hid (owns_keep HO3.out (fun z hz => HXA.out.block ((owns_shape HO3.out).choose_spec.choose_spec.2 z hz).2))
      have HB4 := Lib.hid (show Below w.heap.size w (w3.alloc (.cells #[.slice va (setCh b).length vcap] 73)) from (more_trans (more_of HB3.out) HXA.out).below)
      go_upto_region 9 with (fail)
      generalize w3.alloc (.cells #[.slice va (setCh b).length vcap] 73) = w4 at *
      generalize w3.heap.size = XB at *
      have x0 : w4.cell? ⟨XB, 0, none⟩ = some (.slice va (setCh b).length vcap) := cell_of_blk HXB.out rfl
      have k0 : w4.cell? ⟨RB, 0, none⟩ = some (.slice none 0 0) := cell_of_blk HR4.out rfl
      have f0 := thaw HR4.out 0
      go_wp2_with fail
      have c0 : (w4.setCell ⟨RB, 0, none⟩ (.slice va (setCh b).length vcap)).cell? ⟨RB, 0, none⟩ = some (.slice va (setCh b).length vcap) := setCell_eq k0
      refine bodyPost_ret (v := .agg #[.slice va (setCh b).length vcap]) (by simp [results, Try.results38, go_sem, c0]) rfl ⟨⟨_, rfl, ?_⟩, ?_⟩
      · refine owns_base (owns_keep HO4.out (fun z hz => Below.heap_setCell _ _ _ _ (show z ≠ RB from by have := HOM.out z hz; have := HNB.out; omega))) ?_
        rw [← HRR.out]
        exact Nat.le_of_lt HNB.out
      · exact HB4.out.setCell (p := ⟨RB, 0, none⟩) (show w.heap.size ≤ RB by rw [HRR.out]; exact Nat.le_refl _) _
end Go.Proofs.Ytemeppfikpafbaa
