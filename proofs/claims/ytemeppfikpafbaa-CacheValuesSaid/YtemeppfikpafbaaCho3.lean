/- choice.New (86); the law's set (38). -/
import Derived.Test.YtemeppfikpafbaaCho2
namespace Go.Proofs.Ytemeppfikpafbaa
open Go.RowKit Go.Sort Go.Shelf
theorem info113 : (Try.prog.info? 113).map (fun i => (i.zero, i.size, i.bytes)) = some (some (.agg #[.int .u8 0, .int .i64 0, .int .i64 0, .int .i64 0, .int .i64 0, .int .i64 0, .slice none 0 0]), 7, 72) := by kernel_rfl
theorem run_make71 (n : Nat) (hn : n < 4294967296) (w : World) :
    (Instr.makeSlice 71 (.int .i64 0) (.int .i64 (n : Int))).run Try.prog w = .ok (.slice (some ⟨w.heap.size, 0, none⟩) 0 n) (w.alloc (.cells (madeCells #[.int .u8 0, .int .i64 0, .int .i64 0, .int .i64 0, .int .i64 0, .int .i64 0, .slice none 0 0] (n * 7)) 113)) := by
  obtain ⟨i, hi, hzz⟩ := Option.map_eq_some_iff.1 info113
  simp only [Prod.mk.injEq] at hzz
  obtain ⟨hz, hs, hb⟩ := hzz
  have hr := run_make (P := Try.prog) w 71 113 i _ Try.underlying71 hi hz .i64 .i64 0 n (by omega) (by omega) (by rw [hb]; omega) (by omega)
  simpa [Int.toNat_natCast, hs, Value.cells] using hr
/-- Keys ascend. -/
def AscC (l : List Ch) : Prop := l.Pairwise ltC
theorem withT_asc (f : K4 → Int) {ks : List K4} (hn : ks.Nodup) : AscC (withT f (srtK ks)) := by
  unfold AscC withT
  rw [List.pairwise_map]
  exact cmpK_by.sorted ks hn
theorem AscC.ne_next {l : List Ch} (h : AscC l) {j : Nat} (h1 : j < l.length) (h2 : j + 1 < l.length) : l[j + 1].k ≠ l[j].k := by
  intro e
  have hp := List.pairwise_iff_getElem.1 h j (j + 1) h1 h2 (by omega)
  unfold ltC at hp
  rw [e] at hp
  exact ltK_irrefl _ hp
theorem withT_len (f : K4 → Int) (s : List K4) : (withT f s).length = s.length := List.length_map _
set_option maxRecDepth 100000 in
set_option maxHeartbeats 2000000 in
theorem new_any (ks : List K4) (f : K4 → Int) (v : Value) (w : World) (hl : ks.length ≤ 96) (hn : ks.Nodup) (hok : ∀ x ∈ withT f ks, ChOk x) (h : Row anyB w 7 (withT f ks).length v (flatC chC (withT f ks))) :
    Calls Try.prog 86 #[v] w fun e w' => (∃ v', e = .returned (.tuple #[.agg #[v'], .int .i64 0]) ∧ w'.ownsRow w.heap.size 113 7 v' ks.length (flatC chC (withT f (srtK ks)))) ∧ Below w.heap.size w w' := by
  obtain ⟨a, cap, rfl, _⟩ := h.shape
  have HR := Lib.hid h; clear h
  have HOK := Lib.hid hok; clear hok
  have HWA := Lib.hid (withT_asc f hn); clear hn
  have HLS := Lib.hid (show (srtK ks).length = ks.length from List.length_mergeSort _)
  have HLL := Lib.hid (withT_len f ks)
  obtain ⟨i0, hi0, hz0, hz1, hz2⟩ := info_parts info113
  obtain ⟨l, hll⟩ : ∃ l, withT f ks = l := ⟨_, rfl⟩
  have HLE := Lib.hid hll
  rw [hll] at HR HOK HLL ⊢
  have HLN := Lib.hid (show l.length ≤ 96 by rw [HLL.out]; exact hl)
  have hmk := run_make71 l.length (by have := HLN.out; omega)
  clear hll hl
  have hln := HLN.out
  go_enter Try.func86, Try.ntmps86
  go_wp2_with fail
  have HRB := Lib.hid (alloc_last w (.cells #[.slice none 0 0] 73))
  have HM2 := Lib.hid (more_alloc w (.cells #[.slice none 0 0] 73))
  obtain ⟨RB, HRR⟩ : ∃ RB, Hid (RB = w.heap.size) := ⟨_, Lib.hid rfl⟩
  rw [← HRR.out] at HRB ⊢
  generalize w.alloc (.cells #[.slice none 0 0] 73) = w2 at *
  go_loopw [13] (fun i wr => ∃ j : Nat, j ≤ l.length ∧ i = .int .i64 j ∧ Hid (More w2 wr)) (fun i _ => l.length - (intOf i).toNat)
  case atStart => exact ⟨0, Nat.zero_le _, rfl, Lib.hid (World.grownBy.refl _ _)⟩
  case round =>
    obtain ⟨j, hj, rfl, HMr⟩ := hrel
    have HMW := Lib.hid (more_trans HM2.out HMr.out)
    by_cases hlt : j < l.length
    · obtain ⟨b, off, rfl, _, hc⟩ := HR.out.atC chC_len hlt
      have g0 := HMW.out.cell (hc 0 (.int .u8 l[j].k.kind) rfl)
      have g1 := HMW.out.cell (hc 1 (.int .i64 l[j].k.a) rfl)
      have g2 := HMW.out.cell (hc 2 (.int .i64 l[j].k.b) rfl)
      have g3 := HMW.out.cell (hc 3 (.int .i64 l[j].k.n) rfl)
      have g4 := HMW.out.cell (hc 4 (.int .i64 l[j].t) rfl)
      have g5 := HMW.out.cell (hc 5 (.int .i64 0) rfl)
      have g6 := HMW.out.cell (hc 6 (.slice none 0 0) rfl)
      rw [Nat.add_zero] at g0
      clear hc
      have HX := Lib.hid (HOK.out _ (List.getElem_mem hlt))
      generalize l[j] = x at *
      have hbg := cell_lt g0
      have HC := Lib.hid (fun W => checkCh_any x W HX.out)
      have HMO := Lib.hid (more_alloc wr (.cells #[.int .u8 x.k.kind, .int .i64 x.k.a, .int .i64 x.k.b, .int .i64 x.k.n, .int .i64 x.t, .int .i64 0, .slice none 0 0] 113))
      have HXB := Lib.hid (alloc_last wr (.cells #[.int .u8 x.k.kind, .int .i64 x.k.a, .int .i64 x.k.b, .int .i64 x.k.n, .int .i64 x.t, .int .i64 0, .slice none 0 0] 113))
      go_upto_region 4 with (fail)
      clear g0 g1 g2 g3 g4 g5 g6 hbg
      generalize wr.alloc (.cells #[.int .u8 x.k.kind, .int .i64 x.k.a, .int .i64 x.k.b, .int .i64 x.k.n, .int .i64 x.t, .int .i64 0, .slice none 0 0] 113) = w3 at *
      generalize wr.heap.size = XB at *
      have c0 : w3.cell? ⟨XB, 0, none⟩ = some (.int .u8 x.k.kind) := cell_of_blk HXB.out rfl
      have c1 : w3.cell? ⟨XB, 1, none⟩ = some (.int .i64 x.k.a) := cell_of_blk HXB.out rfl
      have c2 : w3.cell? ⟨XB, 2, none⟩ = some (.int .i64 x.k.b) := cell_of_blk HXB.out rfl
      have c3 : w3.cell? ⟨XB, 3, none⟩ = some (.int .i64 x.k.n) := cell_of_blk HXB.out rfl
      have c4 : w3.cell? ⟨XB, 4, none⟩ = some (.int .i64 x.t) := cell_of_blk HXB.out rfl
      have c5 : w3.cell? ⟨XB, 5, none⟩ = some (.int .i64 0) := cell_of_blk HXB.out rfl
      have c6 : w3.cell? ⟨XB, 6, none⟩ = some (.slice none 0 0) := cell_of_blk HXB.out rfl
      go_wp2_with fail
      refine (HC.out _).mono ?_
      rintro e w4 ⟨rfl, hl4⟩
      have HM4 := Lib.hid (more_trans HMO.out hl4.1)
      clear hl4 c0 c1 c2 c3 c4 c5 c6
      go_wp2_with fail
      go_roundw
      case rel => exact ⟨j + 1, by omega, by go_num, Lib.hid (more_trans HMr.out HM4.out)⟩
      case measure => simp [intOf]; omega
    · obtain rfl : j = l.length := by omega
      clear hlt hj
      obtain ⟨w3, rfl⟩ : ∃ w3 : World, w3 = wr := ⟨_, rfl⟩
      have HROW := Lib.hid (World.ownsRow_made (base := w3.heap.size) (e := 113) (size := 7) w3 (madeCells #[.int .u8 0, .int .i64 0, .int .i64 0, .int .i64 0, .int .i64 0, .int .i64 0, .slice none 0 0] (l.length * 7)) l.length (Nat.le_refl _) (by unfold maxLen; omega) (by simp [madeCells]))
      have HBM := Lib.hid ((Below.refl w3.heap.size w3).alloc (Nat.le_refl _) (.cells (madeCells #[.int .u8 0, .int .i64 0, .int .i64 0, .int .i64 0, .int .i64 0, .int .i64 0, .slice none 0 0] (l.length * 7)) 113))
      obtain ⟨N, HNN⟩ : ∃ N, Hid (N = w3.heap.size) := ⟨_, Lib.hid rfl⟩
      rw [← HNN.out] at HROW HBM
      go_wp2_with fail
      rw [← HNN.out]
      generalize w3.alloc (.cells (madeCells #[.int .u8 0, .int .i64 0, .int .i64 0, .int .i64 0, .int .i64 0, .int .i64 0, .slice none 0 0] (l.length * 7)) 113) = w4 at *
      go_loopw [7, 29] (fun v i wr => ∃ j : Nat, j ≤ l.length ∧ i = .int .i64 j ∧ Hid (Below N w3 wr) ∧ Hid (wr.ownsRow N 113 7 v j (flatC chC (l.take j)))) (fun _ i _ => l.length - (intOf i).toNat)
      case atStart => exact ⟨0, Nat.zero_le _, rfl, HBM, HROW⟩
      case round =>
        obtain ⟨j, hj, rfl, HB, HO⟩ := hrel
        have HBW := Lib.hid (show Below w3.heap.size w3 wr by rw [← HNN.out]; exact HB.out)
        have HNW := Lib.hid (show N ≤ wr.heap.size by rw [HNN.out]; exact HBW.out.size)
        have HMX := Lib.hid (more_trans HMW.out (more_of HBW.out))
        obtain ⟨oa, ocap, rfl, _⟩ := owns_shape HO.out
        by_cases hlt : j < l.length
        · obtain ⟨b, off, rfl, _, hc⟩ := HR.out.atC chC_len hlt
          have g0 := HMX.out.cell (hc 0 (.int .u8 l[j].k.kind) rfl)
          have g1 := HMX.out.cell (hc 1 (.int .i64 l[j].k.a) rfl)
          have g2 := HMX.out.cell (hc 2 (.int .i64 l[j].k.b) rfl)
          have g3 := HMX.out.cell (hc 3 (.int .i64 l[j].k.n) rfl)
          have g4 := HMX.out.cell (hc 4 (.int .i64 l[j].t) rfl)
          have g5 := HMX.out.cell (hc 5 (.int .i64 0) rfl)
          have g6 := HMX.out.cell (hc 6 (.slice none 0 0) rfl)
          rw [Nat.add_zero] at g0
          clear hc
          have HT := Lib.hid (show l.take (j + 1) = l.take j ++ [l[j]] from List.take_succ_eq_append_getElem hlt)
          generalize l[j] = x at *
          have hbg := cell_lt g0
          have HC := Lib.hid (show ∀ W, Calls Try.prog 100 #[.agg #[.int .u8 x.k.kind, .int .i64 x.k.a, .int .i64 x.k.b, .int .i64 x.k.n, .int .i64 x.t, .int .i64 0, .slice none 0 0]] W fun e w' => e = .returned (.agg #[.int .u8 x.k.kind, .int .i64 x.k.a, .int .i64 x.k.b, .int .i64 x.k.n, .int .i64 x.t, .int .i64 0, .slice none 0 0]) ∧ Lay W w' from fun W => cloneCh_any x W)
          have HMO := Lib.hid (more_alloc wr (.cells #[.int .u8 x.k.kind, .int .i64 x.k.a, .int .i64 x.k.b, .int .i64 x.k.n, .int .i64 x.t, .int .i64 0, .slice none 0 0] 113))
          have HXB := Lib.hid (alloc_last wr (.cells #[.int .u8 x.k.kind, .int .i64 x.k.a, .int .i64 x.k.b, .int .i64 x.k.n, .int .i64 x.t, .int .i64 0, .slice none 0 0] 113))
          have HUP := Lib.hid (show ∀ W, More wr W → Below N w3 W ∧ N ≤ W.heap.size from fun W h => ⟨HB.out.trans (h.below.mono HNW.out), Nat.le_trans HNW.out h.size⟩)
          go_upto_region 12 with (fail)
          clear g0 g1 g2 g3 g4 g5 g6 hbg
          generalize wr.alloc (.cells #[.int .u8 x.k.kind, .int .i64 x.k.a, .int .i64 x.k.b, .int .i64 x.k.n, .int .i64 x.t, .int .i64 0, .slice none 0 0] 113) = w5 at *
          generalize wr.heap.size = XB at *
          have c0 : w5.cell? ⟨XB, 0, none⟩ = some (.int .u8 x.k.kind) := cell_of_blk HXB.out rfl
          have c1 : w5.cell? ⟨XB, 1, none⟩ = some (.int .i64 x.k.a) := cell_of_blk HXB.out rfl
          have c2 : w5.cell? ⟨XB, 2, none⟩ = some (.int .i64 x.k.b) := cell_of_blk HXB.out rfl
          have c3 : w5.cell? ⟨XB, 3, none⟩ = some (.int .i64 x.k.n) := cell_of_blk HXB.out rfl
          have c4 : w5.cell? ⟨XB, 4, none⟩ = some (.int .i64 x.t) := cell_of_blk HXB.out rfl
          have c5 : w5.cell? ⟨XB, 5, none⟩ = some (.int .i64 0) := cell_of_blk HXB.out rfl
          have c6 : w5.cell? ⟨XB, 6, none⟩ = some (.slice none 0 0) := cell_of_blk HXB.out rfl
          go_wp2_with fail
          refine (HC.out _).mono ?_
          rintro e w6 ⟨rfl, hl6⟩
          have HM6 := Lib.hid (more_trans HMO.out hl6.1)
          have HB6 := Lib.hid (HUP.out _ HM6.out).1
          have HO6 := Lib.hid (owns_keep HO.out (fun z hz => HM6.out.block ((owns_shape HO.out).choose_spec.choose_spec.2 z hz).2))
          have hnd := (HUP.out _ HM6.out).2
          clear hl6 c0 c1 c2 c3 c4 c5 c6
          have hm1 : j + 1 ≤ maxLen := by unfold maxLen; omega
          have hm2 : (j + 1) * 72 ≤ 140737488355328 := by omega
          go_wp2_with (at_builtin; refine wpList_append_own _ rfl _ _ 71 rfl N 113 i0 _ 7 72 Try.underlying71 hi0 hz0 hz1 hz2 rfl (by omega) (.slice oa j ocap) j (flatC chC (l.take j)) rfl (owns_keep HO6.out (fun z hz => Below.heap_alloc w6 _ _ ((owns_shape HO6.out).choose_spec.choose_spec.2 z hz).2)) ⟨w6.heap.size, 0, none⟩ 1 1 [.int .u8 x.k.kind, .int .i64 x.k.a, .int .i64 x.k.b, .int .i64 x.k.n, .int .i64 x.t, .int .i64 0, .slice none 0 0] rfl rfl (World.news_of_block (cs := #[.int .u8 x.k.kind, .int .i64 x.k.a, .int .i64 x.k.b, .int .i64 x.k.n, .int .i64 x.t, .int .i64 0, .slice none 0 0]) (t := 113) (fr := (0, 0)) (alloc_last _ _)) (by simp [Value.oneCell']) hm1 hm2 (by rw [World.size_alloc]; omega) ?_; intro v8 w8 hown8 hgrow8 _)
          have HB8 := Lib.hid ((HB6.out.alloc hnd _).grown hgrow8 (by rw [World.size_alloc]; omega) (fun z hz => ((owns_shape HO6.out).choose_spec.choose_spec.2 z hz).1))
          have HO8 := Lib.hid (show w8.ownsRow N 113 7 v8 (j + 1) (flatC chC (l.take (j + 1))) by rw [HT.out, flatC_push]; exact hown8)
          clear hown8 hgrow8
          go_wp2_with fail
          go_roundw
          case rel => exact ⟨j + 1, by omega, by go_num, HB8, HO8⟩
          case measure => simp [intOf]; omega
        · obtain rfl : j = l.length := by omega
          rw [List.take_of_length_le (Nat.le_refl _)] at HO
          clear hlt hj
          have HSO := Lib.hid (sortChoice f (s := ks) _ N wr (by rw [← HLL.out]; omega) (by rw [← HLL.out, HLE.out]; exact HO.out))
          rw [← HLL.out] at HSO
          go_wp2_with fail
          refine HSO.out.mono ?_
          rintro e w7 ⟨rfl, hg7, ho7⟩
          have HB7 := Lib.hid (HB.out.grown hg7 HNW.out (fun z hz => ((owns_shape HO.out).choose_spec.choose_spec.2 z hz).1))
          have HO7 := Lib.hid ho7
          have HR7 := Lib.hid ((Row.of_owns ho7).mono (S' := anyB) (fun _ _ => trivial) (fun _ _ _ _ h => h))
          have HBW7 := Lib.hid (show Below w3.heap.size w3 w7 by rw [← HNN.out]; exact HB7.out)
          have HM7 := Lib.hid (more_trans HMr.out (more_of HBW7.out))
          have HRB7 := Lib.hid ((HM7.out.block (blk_lt HRB.out)).trans HRB.out)
          clear hg7 ho7 HO HB HSO
          go_wp2_with fail
          go_loopw [10] (fun i wr => ∃ j : Nat, i = .int .i64 ((j + 1 : Nat) : Int) ∧ Hid (j ≤ l.length) ∧ Hid (More w7 wr)) (fun i _ => l.length - (intOf i).toNat)
          case atStart => exact ⟨0, rfl, Lib.hid (Nat.zero_le _), Lib.hid (World.grownBy.refl _ _)⟩
          case round =>
            obtain ⟨j, rfl, HJ, HMy⟩ := hrel
            have HLW := Lib.hid (show (withT f (srtK ks)).length = l.length by rw [withT_len, HLS.out, HLL.out])
            by_cases hlt : j + 1 < l.length
            · have hjl : j < l.length := by omega
              obtain ⟨sa, scap, hsv, _⟩ := HR7.out.shape
              cases hsv
              have HRW := Lib.hid (show Row anyB w7 7 (withT f (srtK ks)).length (.slice oa (withT f (srtK ks)).length ocap) (flatC chC (withT f (srtK ks))) by rw [HLW.out]; exact HR7.out)
              have i1 : j + 1 < (withT f (srtK ks)).length := by rw [HLW.out]; exact hlt
              have i2 : j < (withT f (srtK ks)).length := by rw [HLW.out]; exact hjl
              have hne := HWA.out.ne_next i2 i1
              obtain ⟨b, off, hab, _, hc⟩ := HRW.out.atC chC_len (i := j + 1) i1
              cases hab
              have g0 := HMy.out.cell (hc 0 (.int .u8 (withT f (srtK ks))[j + 1].k.kind) rfl)
              have g1 := HMy.out.cell (hc 1 (.int .i64 (withT f (srtK ks))[j + 1].k.a) rfl)
              have g2 := HMy.out.cell (hc 2 (.int .i64 (withT f (srtK ks))[j + 1].k.b) rfl)
              have g3 := HMy.out.cell (hc 3 (.int .i64 (withT f (srtK ks))[j + 1].k.n) rfl)
              rw [Nat.add_zero] at g0
              clear hc
              obtain ⟨b', off', hab, _, hc⟩ := HRW.out.atC chC_len (i := j) i2
              cases hab
              have e0 := HMy.out.cell (hc 0 (.int .u8 (withT f (srtK ks))[j].k.kind) rfl)
              have e1 := HMy.out.cell (hc 1 (.int .i64 (withT f (srtK ks))[j].k.a) rfl)
              have e2 := HMy.out.cell (hc 2 (.int .i64 (withT f (srtK ks))[j].k.b) rfl)
              have e3 := HMy.out.cell (hc 3 (.int .i64 (withT f (srtK ks))[j].k.n) rfl)
              rw [Nat.add_zero] at e0
              clear hc
              generalize (withT f (srtK ks))[j + 1].k = x at *
              generalize (withT f (srtK ks))[j].k = y at *
              have heq := fun W => run_eqK x y W
              rw [decide_eq_false hne] at heq
              have hwj : IntKind.i64.wrap (j : Int) = j := by rw [IntKind.wrap_i64]; omega
              have hbg := cell_lt g0
              clear hne i1 i2
              go_upto_region 18 with (fail)
              go_quiet (fail)
              go_wp2_with fail
              go_roundw
              case rel => exact ⟨j + 1, by go_num, Lib.hid (by omega), Lib.hid (more_trans HMy.out (grownBy_drewN wr nq none))⟩
              case measure => simp [intOf]; omega
            · have hge : l.length ≤ j + 1 := by omega
              have HRBy := Lib.hid ((HMy.out.block (blk_lt HRB7.out)).trans HRB7.out)
              have k0 : wr.cell? ⟨RB, 0, none⟩ = some (.slice none 0 0) := cell_of_blk HRBy.out rfl
              have f0 := thaw HRBy.out 0
              have HB3 := Lib.hid (show Below w.heap.size w wr from (more_trans HM2.out (more_trans HM7.out HMy.out)).below)
              have HOF := Lib.hid (owns_keep HO7.out (fun z hz => HMy.out.block ((owns_shape HO7.out).choose_spec.choose_spec.2 z hz).2))
              have HNB := Lib.hid (show RB < N by rw [HNN.out]; exact Nat.lt_of_lt_of_le (blk_lt HRB.out) HMr.out.size)
              have HOM := Lib.hid (fun z hz => ((owns_shape HO7.out).choose_spec.choose_spec.2 z hz).1)
              have h96 : l.length ≤ 96 := HLN.out
              clear hlt
              go_wp2_with fail
              have c0 : (wr.setCell ⟨RB, 0, none⟩ (.slice oa l.length ocap)).cell? ⟨RB, 0, none⟩ = some (.slice oa l.length ocap) := setCell_eq k0
              refine bodyPost_ret (v := .tuple #[.agg #[.slice oa l.length ocap], .int .i64 0]) (by simp [results, Try.results86, go_sem, c0]) rfl ⟨⟨_, rfl, ?_⟩, ?_⟩
              · rw [← HLL.out]
                refine owns_base (owns_keep HOF.out (fun z hz => Below.heap_setCell _ _ _ _ (show z ≠ RB from by have := HOM.out z hz; have := HNB.out; omega))) ?_
                rw [← HRR.out]
                exact Nat.le_of_lt HNB.out
              · exact HB3.out.setCell (p := ⟨RB, 0, none⟩) (show w.heap.size ≤ RB by rw [HRR.out]; exact Nat.le_refl _) _
end Go.Proofs.Ytemeppfikpafbaa
