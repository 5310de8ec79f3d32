/- (choice.Set).Without (53), With (55). -/
import Derived.Test.YtemeppfikpafbaaValP
import Derived.Test.YtemeppfikpafbaaRefC
namespace Go.Proofs.Ytemeppfikpafbaa
open Go.RowKit
theorem info4 : (Try.prog.info? 4).map (fun i => (i.zero, i.size, i.bytes)) = some (some (.bool false), 1, 1) := by kernel_rfl
theorem run_make169 (n : Nat) (hn : n < 4294967296) (w : World) :
    (Instr.makeSlice 169 (.int .i64 (n : Int)) (.int .i64 (n : Int))).run Try.prog w = .ok (.slice (some ⟨w.heap.size, 0, none⟩) n n) (w.alloc (.cells (madeCells #[.bool false] n) 4)) := by
  obtain ⟨i, hi, hzz⟩ := Option.map_eq_some_iff.1 info4
  simp only [Prod.mk.injEq] at hzz
  obtain ⟨hz, hs, hb⟩ := hzz
  have hr := run_make (P := Try.prog) w 169 4 i _ Try.underlying169 hi hz .i64 .i64 n n (by omega) (by omega) (by rw [hb]; omega) (by omega)
  simpa [Int.toNat_natCast, hs, Value.cells] using hr
/-- The marks of the choices that are taken out. -/
def goneA (s : List Ch) (ks : List K4) : Array Value := (s.map fun x => .bool (decide (x.k ∈ ks))).toArray
theorem goneA_nil (s : List Ch) : goneA s [] = madeCells #[.bool false] s.length := by
  unfold goneA madeCells
  apply Array.ext
  · simp
  · intro i h1 h2
    simp [Nat.mod_one]
theorem goneA_get {s : List Ch} {ks : List K4} {i : Nat} (h : i < s.length) : (goneA s ks)[i]? = some (.bool (decide (s[i].k ∈ ks))) := by
  unfold goneA
  rw [List.getElem?_toArray, List.getElem?_map, List.getElem?_eq_getElem h]
  rfl
theorem goneA_set {s : List Ch} (ha : AscC s) {ks : List K4} {k : K4} {p : Nat} (hp : p < s.length) (hk : s[p].k = k) : (goneA s ks).setIfInBounds p (.bool true) = goneA s (ks ++ [k]) := by
  apply Array.ext
  · simp [goneA]
  · intro i h1 h2
    have hi : i < s.length := by simpa [goneA] using h2
    by_cases e : i = p
    · subst e
      rw [Array.getElem_setIfInBounds_self]
      simp [goneA, hk]
    · rw [Array.getElem_setIfInBounds_ne (by simpa [goneA] using hi) (fun e' => e e'.symm)]
      have hne : s[i].k ≠ k := by
        intro e'
        have h3 : s[i].k = s[p].k := by rw [e', hk]
        rcases Nat.lt_or_ge i p with h | h
        · have := List.pairwise_iff_getElem.1 ha i p hi hp h
          unfold ltC at this
          rw [h3] at this
          exact ltK_irrefl _ this
        · have := List.pairwise_iff_getElem.1 ha p i hp hi (by omega)
          unfold ltC at this
          rw [h3] at this
          exact ltK_irrefl _ this
      simp [goneA, hne]
theorem goneA_same {s : List Ch} {ks : List K4} {k : K4} (h : ∀ x ∈ s, x.k ≠ k) : goneA s (ks ++ [k]) = goneA s ks := by
  unfold goneA
  congr 1
  refine List.map_congr_left fun x hx => ?_
  congr 1
  rw [Bool.eq_iff_iff]
  simp [h x hx]
theorem getC_none' {s : List Ch} {k : K4} (h : getC s k = none) : ∀ x ∈ s, x.k ≠ k := by
  intro x hx e
  unfold getC at h
  rw [List.find?_eq_none] at h
  exact h x hx (by simp [e])
theorem outC_step (s : List Ch) (ks : List K4) (j : Nat) (h : j < s.length) : outC (s.take (j + 1)) ks = if decide (s[j].k ∈ ks) = true then outC (s.take j) ks else outC (s.take j) ks ++ [s[j]] := by
  unfold outC
  rw [List.take_succ_eq_append_getElem h, List.filter_append]
  by_cases e : s[j].k ∈ ks <;> simp [e]
set_option maxRecDepth 100000 in
set_option maxHeartbeats 4000000 in
theorem without_any (s : List Ch) (ks : List K4) (sv kv : Value) (w : World) (hl : s.length ≤ 1000) (ha : AscC s) (hs : Row anyB w 7 s.length sv (flatC chC s)) (hk : Row anyB w 4 ks.length kv (flatC kC ks)) (hkl : ks.length ≤ 1000) :
    Calls Try.prog 53 #[.agg #[sv], kv] w fun e w' => (∃ v, e = .returned (.agg #[v]) ∧ w'.ownsRow w.heap.size 113 7 v (outC s ks).length (flatC chC (outC s ks))) ∧ Below w.heap.size w w' := by
  obtain ⟨sa, sc, rfl, _⟩ := hs.shape
  obtain ⟨ka, kc, rfl, _⟩ := hk.shape
  have HS := Lib.hid hs; clear hs
  have HK := Lib.hid hk; clear hk
  have HA := Lib.hid ha
  have HLL := Lib.hid (And.intro hl hkl)
  obtain ⟨i0, hi0, hz0, hz1, hz2⟩ := info_parts info113
  have HFD := Lib.hid (fun (k : K4) W (hW : More w W) => find_any s k _ W (by omega) ha (HS.out.below hW.below))
  have hmk := run_make169 s.length (by omega)
  clear ha
  go_enter Try.func53, Try.ntmps53
  go_upto_region 1 with (fail)
  obtain ⟨b1, b2, hm⟩ := boxed2 w (.cells #[.slice sa s.length sc] 73) (.cells #[.slice none 0 0] 73)
  generalize (w.alloc (.cells #[.slice sa s.length sc] 73)).alloc (.cells #[.slice none 0 0] 73) = w2 at *
  have HSB := Lib.hid b1
  have HRB := Lib.hid b2
  have HM2 := Lib.hid hm.1
  obtain ⟨SB, HSE⟩ : ∃ SB, Hid (SB = w.heap.size) := ⟨_, Lib.hid rfl⟩
  obtain ⟨RB, HRE⟩ : ∃ RB, Hid (RB = w.heap.size + 1) := ⟨_, Lib.hid rfl⟩
  rw [← HRE.out] at HRB ⊢
  rw [← HSE.out] at HSB ⊢
  clear b1 b2 hm
  have s0 : w2.cell? ⟨SB, 0, none⟩ = some (.slice sa s.length sc) := cell_of_blk HSB.out rfl
  have hsb := cell_lt s0
  have hmk2 := hmk w2
  clear hmk
  go_wp2_with fail
  have HGB := Lib.hid (show (w2.alloc (.cells (madeCells #[.bool false] s.length) 4)).heap[w2.heap.size]? = some (.cells (goneA s []) 4) by rw [goneA_nil]; exact alloc_last _ _)
  have HM4 := Lib.hid (more_trans HM2.out (more_alloc w2 (.cells (madeCells #[.bool false] s.length) 4)))
  have HSB4 := Lib.hid (show (w2.alloc (.cells (madeCells #[.bool false] s.length) 4)).heap[SB]? = _ from ((more_alloc w2 _).block (blk_lt HSB.out)).trans HSB.out)
  have HRB4 := Lib.hid (show (w2.alloc (.cells (madeCells #[.bool false] s.length) 4)).heap[RB]? = _ from ((more_alloc w2 _).block (blk_lt HRB.out)).trans HRB.out)
  obtain ⟨GB, HGE⟩ : ∃ GB, Hid (GB = w2.heap.size) := ⟨_, Lib.hid rfl⟩
  have HG2 := Lib.hid (show w.heap.size ≤ GB ∧ SB < GB ∧ RB < GB by rw [HGE.out]; exact ⟨HM2.out.size, blk_lt HSB.out, blk_lt HRB.out⟩)
  rw [← HGE.out] at HGB ⊢
  generalize w2.alloc (.cells (madeCells #[.bool false] s.length) 4) = w4 at *
  clear s0 hsb hmk2 HSB HRB HM2
  go_loopw [19] (fun i wr => ∃ j : Nat, j ≤ ks.length ∧ i = .int .i64 j ∧ Hid (w4.grownBy wr (some GB)) ∧ Hid (wr.heap[GB]? = some (.cells (goneA s (ks.take j)) 4))) (fun i _ => ks.length - (intOf i).toNat)
  case atStart => exact ⟨0, Nat.zero_le _, rfl, Lib.hid (World.grownBy.refl _ _), HGB⟩
  case round =>
    obtain ⟨j, hj, rfl, HG, HGC⟩ := hrel
    have HMW := Lib.hid (show More w wr from moreGrown HM4.out HG.out (fun b e => by cases e; exact HG2.out.1))
    have HSBr := Lib.hid ((HG.out.block SB (blk_lt HSB4.out) (fun e => by have := Option.some.inj e; have := HG2.out; omega)).trans HSB4.out)
    by_cases hlt : j < ks.length
    · obtain ⟨b, off, rfl, _, hc⟩ := HK.out.atC kC_len hlt
      have g0 := HMW.out.cell (hc 0 (.int .u8 ks[j].kind) rfl)
      have g1 := HMW.out.cell (hc 1 (.int .i64 ks[j].a) rfl)
      have g2 := HMW.out.cell (hc 2 (.int .i64 ks[j].b) rfl)
      have g3 := HMW.out.cell (hc 3 (.int .i64 ks[j].n) rfl)
      rw [Nat.add_zero] at g0
      clear hc
      have HT := Lib.hid (show ks.take (j + 1) = ks.take j ++ [ks[j]] from List.take_succ_eq_append_getElem hlt)
      generalize ks[j] = k at *
      have hbg := cell_lt g0
      have HKB := Lib.hid (alloc_last wr (.cells #[.int .u8 k.kind, .int .i64 k.a, .int .i64 k.b, .int .i64 k.n] 48))
      have HMK := Lib.hid (more_alloc wr (.cells #[.int .u8 k.kind, .int .i64 k.a, .int .i64 k.b, .int .i64 k.n] 48))
      go_upto_region 5 with (fail)
      clear g0 g1 g2 g3 hbg
      generalize wr.alloc (.cells #[.int .u8 k.kind, .int .i64 k.a, .int .i64 k.b, .int .i64 k.n] 48) = w5 at *
      generalize wr.heap.size = KB at *
      have HSB5 := Lib.hid ((HMK.out.block (blk_lt HSBr.out)).trans HSBr.out)
      have c0 : w5.cell? ⟨KB, 0, none⟩ = some (.int .u8 k.kind) := cell_of_blk HKB.out rfl
      have c1 : w5.cell? ⟨KB, 1, none⟩ = some (.int .i64 k.a) := cell_of_blk HKB.out rfl
      have c2 : w5.cell? ⟨KB, 2, none⟩ = some (.int .i64 k.b) := cell_of_blk HKB.out rfl
      have c3 : w5.cell? ⟨KB, 3, none⟩ = some (.int .i64 k.n) := cell_of_blk HKB.out rfl
      have s0 : w5.cell? ⟨SB, 0, none⟩ = some (.slice sa s.length sc) := cell_of_blk HSB5.out rfl
      have hkb := cell_lt c0
      have hsb := cell_lt s0
      go_wp2_with fail
      refine (HFD.out k _ (more_trans HMW.out HMK.out)).mono ?_
      rintro e w6 ⟨⟨p, hp, rfl⟩, hl6⟩
      have HG6 := Lib.hid (grownBy_more HG.out (more_trans HMK.out hl6.1))
      have HGB6 := Lib.hid (((more_trans HMK.out hl6.1).block (blk_lt HGC.out)).trans HGC.out)
      obtain ⟨z, HZ⟩ : ∃ z, Hid ((s[p]?.map (·.k) == some k) = z) := ⟨_, Lib.hid rfl⟩
      rw [HZ.out]
      have HPL := Lib.hid hp
      clear hl6 c0 c1 c2 c3 s0 hkb hsb hp
      cases z with
      | false =>
        have HSM := Lib.hid (goneA_same (s := s) (ks := ks.take j) (getC_none' (getC_none HPL.out HA.out HZ.out)))
        go_wp2_with fail
        go_roundw
        case rel => exact ⟨j + 1, by omega, by go_num, HG6, Lib.hid (by rw [HT.out, HSM.out]; exact HGB6.out)⟩
        case measure => simp [intOf]; omega
      | true =>
        have hpl : p < s.length := by
          have h := HZ.out
          by_cases hh : p < s.length
          · exact hh
          · rw [List.getElem?_eq_none (by omega)] at h; simp at h
        have HPK := Lib.hid (show s[p].k = k by have h := HZ.out; rw [List.getElem?_eq_getElem hpl] at h; simpa using h)
        have HST := Lib.hid (goneA_set HA.out (ks := ks.take j) hpl HPK.out)
        have p0 : w6.cell? ⟨GB, p, none⟩ = some (.bool (decide (s[p].k ∈ ks.take j))) := cell_of_blk HGB6.out (goneA_get hpl)
        have f0 := thaw HGB6.out p
        generalize decide (s[p].k ∈ ks.take j) = q0 at p0
        have hgb := cell_lt p0
        go_wp2_with fail
        go_roundw
        case rel => exact ⟨j + 1, by omega, by go_num, Lib.hid (grownBy_trans HG6.out ⟨rfl, rfl, rfl, by simp, fun b _ hb => Below.heap_setCell _ _ _ _ (show b ≠ GB from fun e => hb (by rw [e]))⟩), Lib.hid (by rw [HT.out, ← HST.out]; exact setCell_heap HGB6.out)⟩
        case measure => simp [intOf]; omega
    · obtain rfl : j = ks.length := by omega
      rw [List.take_of_length_le (Nat.le_refl _)] at HGC
      clear hlt hj
      obtain ⟨w6, rfl⟩ : ∃ w6 : World, w6 = wr := ⟨_, rfl⟩
      have HRB6 := Lib.hid ((HG.out.block RB (blk_lt HRB4.out) (fun e => by have := Option.some.inj e; have := HG2.out; omega)).trans HRB4.out)
      have HMW6 := Lib.hid HMW.out
      obtain ⟨N, HNN⟩ : ∃ N, Hid (N = w6.heap.size) := ⟨_, Lib.hid rfl⟩
      have s0 : w6.cell? ⟨SB, 0, none⟩ = some (.slice sa s.length sc) := cell_of_blk HSBr.out rfl
      have hsb := cell_lt s0
      go_wp2_with fail
      clear s0 hsb
      go_loopw [10, 37] (fun v i wr => ∃ j : Nat, j ≤ s.length ∧ i = .int .i64 j ∧ Hid (Below N w6 wr) ∧ Hid (wr.ownsRow N 113 7 v (outC (s.take j) ks).length (flatC chC (outC (s.take j) ks))) ∧ Hid ((outC (s.take j) ks).length ≤ j)) (fun _ i _ => s.length - (intOf i).toNat)
      case atStart => exact ⟨0, Nat.zero_le _, rfl, Lib.hid (Below.refl _ _), Lib.hid (World.ownsRow_nil _ _ _ _), Lib.hid (Nat.le_refl _)⟩
      case round =>
        obtain ⟨j, hj, rfl, HB, HO, HLJ⟩ := hrel
        have HBW := Lib.hid (show Below w6.heap.size w6 wr by rw [← HNN.out]; exact HB.out)
        have HNW := Lib.hid (show N ≤ wr.heap.size by rw [HNN.out]; exact HBW.out.size)
        have HMX := Lib.hid (more_trans HMW6.out (more_of HBW.out))
        have HGBr := Lib.hid (((more_of HBW.out).block (blk_lt HGC.out)).trans HGC.out)
        obtain ⟨oa, ocap, rfl, _⟩ := owns_shape HO.out
        by_cases hlt : j < s.length
        · obtain ⟨b, off, rfl, _, hc⟩ := HS.out.atC chC_len hlt
          have g0 := HMX.out.cell (hc 0 (.int .u8 s[j].k.kind) rfl)
          have g1 := HMX.out.cell (hc 1 (.int .i64 s[j].k.a) rfl)
          have g2 := HMX.out.cell (hc 2 (.int .i64 s[j].k.b) rfl)
          have g3 := HMX.out.cell (hc 3 (.int .i64 s[j].k.n) rfl)
          have g4 := HMX.out.cell (hc 4 (.int .i64 s[j].t) rfl)
          have g5 := HMX.out.cell (hc 5 (.int .i64 0) rfl)
          have g6 := HMX.out.cell (hc 6 (.slice none 0 0) rfl)
          rw [Nat.add_zero] at g0
          clear hc
          have HT := Lib.hid (outC_step s ks j hlt)
          have HGJ := Lib.hid (goneA_get (s := s) (ks := ks) hlt)
          generalize s[j] = x at *
          obtain ⟨q, HQ⟩ : ∃ q, Hid (decide (x.k ∈ ks) = q) := ⟨_, Lib.hid rfl⟩
          rw [HQ.out] at HT HGJ
          have hbg := cell_lt g0
          have HMO := Lib.hid (more_alloc wr (.cells #[.int .u8 x.k.kind, .int .i64 x.k.a, .int .i64 x.k.b, .int .i64 x.k.n, .int .i64 x.t, .int .i64 0, .slice none 0 0] 113))
          have HXB := Lib.hid (alloc_last wr (.cells #[.int .u8 x.k.kind, .int .i64 x.k.a, .int .i64 x.k.b, .int .i64 x.k.n, .int .i64 x.t, .int .i64 0, .slice none 0 0] 113))
          have HUP := Lib.hid (show ∀ W, More wr W → Below N w6 W ∧ N ≤ W.heap.size from fun W h => ⟨HB.out.trans (h.below.mono HNW.out), Nat.le_trans HNW.out h.size⟩)
          go_upto_region 13 with (fail)
          clear g0 g1 g2 g3 g4 g5 g6 hbg
          generalize wr.alloc (.cells #[.int .u8 x.k.kind, .int .i64 x.k.a, .int .i64 x.k.b, .int .i64 x.k.n, .int .i64 x.t, .int .i64 0, .slice none 0 0] 113) = w5 at *
          generalize wr.heap.size = XB at *
          have HGB5 := Lib.hid ((HMO.out.block (blk_lt HGBr.out)).trans HGBr.out)
          have q0 : w5.cell? ⟨GB, j, none⟩ = some (.bool q) := cell_of_blk HGB5.out HGJ.out
          have hgb := cell_lt q0
          have HB6 := Lib.hid (HUP.out _ HMO.out).1
          have HO6 := Lib.hid (owns_keep HO.out (fun z hz => HMO.out.block ((owns_shape HO.out).choose_spec.choose_spec.2 z hz).2))
          cases q with
          | true =>
            rw [if_pos rfl] at HT
            go_wp2_with fail
            go_roundw
            case rel => exact ⟨j + 1, by omega, by go_num, HB6, Lib.hid (by rw [HT.out]; exact HO6.out), Lib.hid (by rw [HT.out]; have := HLJ.out; omega)⟩
            case measure => simp [intOf]; omega
          | false =>
            rw [if_neg (by decide)] at HT
            have c0 : w5.cell? ⟨XB, 0, none⟩ = some (.int .u8 x.k.kind) := cell_of_blk HXB.out rfl
            have c1 : w5.cell? ⟨XB, 1, none⟩ = some (.int .i64 x.k.a) := cell_of_blk HXB.out rfl
            have c2 : w5.cell? ⟨XB, 2, none⟩ = some (.int .i64 x.k.b) := cell_of_blk HXB.out rfl
            have c3 : w5.cell? ⟨XB, 3, none⟩ = some (.int .i64 x.k.n) := cell_of_blk HXB.out rfl
            have c4 : w5.cell? ⟨XB, 4, none⟩ = some (.int .i64 x.t) := cell_of_blk HXB.out rfl
            have c5 : w5.cell? ⟨XB, 5, none⟩ = some (.int .i64 0) := cell_of_blk HXB.out rfl
            have c6 : w5.cell? ⟨XB, 6, none⟩ = some (.slice none 0 0) := cell_of_blk HXB.out rfl
            have hnd := (HUP.out _ HMO.out).2
            have hxb := cell_lt c0
            have hlj := HLJ.out
            obtain ⟨L, HL⟩ : ∃ L, Hid (L = outC (s.take j) ks) := ⟨_, Lib.hid rfl⟩
            rw [← HL.out] at HO6 HT hlj ⊢
            have hm1 : L.length + 1 ≤ maxLen := by unfold maxLen; omega
            have hm2 : (L.length + 1) * 72 ≤ 140737488355328 := by omega
            go_wp2_with (at_builtin; refine wpList_append_own _ rfl _ _ 71 rfl N 113 i0 _ 7 72 Try.underlying71 hi0 hz0 hz1 hz2 rfl (by omega) (.slice oa L.length ocap) L.length (flatC chC L) rfl (owns_keep HO6.out (fun z hz => Below.heap_alloc w5 _ _ ((owns_shape HO6.out).choose_spec.choose_spec.2 z hz).2)) ⟨w5.heap.size, 0, none⟩ 1 1 [.int .u8 x.k.kind, .int .i64 x.k.a, .int .i64 x.k.b, .int .i64 x.k.n, .int .i64 x.t, .int .i64 0, .slice none 0 0] rfl rfl (World.news_of_block (cs := #[.int .u8 x.k.kind, .int .i64 x.k.a, .int .i64 x.k.b, .int .i64 x.k.n, .int .i64 x.t, .int .i64 0, .slice none 0 0]) (t := 113) (fr := (0, 0)) (alloc_last _ _)) (by simp [Value.oneCell']) hm1 hm2 (by rw [World.size_alloc]; omega) ?_; intro v8 w8 hown8 hgrow8 _)
            have HB8 := Lib.hid ((HB6.out.alloc hnd _).grown hgrow8 (by rw [World.size_alloc]; omega) (fun z hz => ((owns_shape HO6.out).choose_spec.choose_spec.2 z hz).1))
            have HO8 := Lib.hid (show w8.ownsRow N 113 7 v8 (outC (s.take (j + 1)) ks).length (flatC chC (outC (s.take (j + 1)) ks)) by rw [HT.out, List.length_append, List.length_singleton, flatC_push]; exact hown8)
            have HL8 := Lib.hid (show (outC (s.take (j + 1)) ks).length ≤ j + 1 by rw [HT.out, List.length_append, List.length_singleton]; omega)
            clear hown8 hgrow8
            go_wp2_with fail
            go_roundw
            case rel => exact ⟨j + 1, by omega, by go_num, HB8, HO8, HL8⟩
            case measure => simp [intOf]; omega
        · obtain rfl : j = s.length := by omega
          rw [List.take_of_length_le (Nat.le_refl _)] at HO
          clear hlt hj
          have HRBr := Lib.hid (((more_of HBW.out).block (blk_lt HRB6.out)).trans HRB6.out)
          have k0 : wr.cell? ⟨RB, 0, none⟩ = some (.slice none 0 0) := cell_of_blk HRBr.out rfl
          have f0 := thaw HRBr.out 0
          have hrb := cell_lt k0
          have HNR := Lib.hid (show RB < N by rw [HNN.out]; exact blk_lt HRB6.out)
          have HOM := Lib.hid (fun z hz => ((owns_shape HO.out).choose_spec.choose_spec.2 z hz).1)
          have HWR := Lib.hid (show w.heap.size ≤ RB by rw [HRE.out]; omega)
          obtain ⟨n, HNL⟩ : ∃ n, Hid (n = (outC s ks).length) := ⟨_, Lib.hid rfl⟩
          rw [List.take_of_length_le (Nat.le_refl _), ← HNL.out]
          rw [← HNL.out] at HO HOM
          go_wp2_with fail
          have c0 : (wr.setCell ⟨RB, 0, none⟩ (.slice oa n ocap)).cell? ⟨RB, 0, none⟩ = some (.slice oa n ocap) := setCell_eq k0
          refine bodyPost_ret (v := .agg #[.slice oa n ocap]) (by simp [results, Try.results53, go_sem, c0]) rfl ⟨⟨_, rfl, ?_⟩, ?_⟩
          · rw [← HNL.out]
            exact owns_base (owns_keep HO.out (fun z hz => Below.heap_setCell _ _ _ _ (show z ≠ RB from by have := HOM.out z hz; have := HNR.out; omega))) (by have := HNR.out; have := HWR.out; omega)
          · exact (HMX.out.below).setCell (p := ⟨RB, 0, none⟩) HWR.out _
theorem wpList_append_rowC {w : World} {ops : Array Oper} {rest : List Oper} {o : Oper} {a : Act} {Q : Exit → Act → World → Prop} (hgd : o.guard = none) (s x : Operand) (t : TypeId)
    (ho : o.op = .call { callee := .builtin .append, args := #[s, x], argTypes := #[t, t] })
    (base : Nat) (e : TypeId) (i : TypeInfo) (z : Value) (size bytes : Nat) (ht : Try.prog.underlying t = some (.slice e)) (hi : Try.prog.info? e = some i) (hz : i.zero = some z)
    (hsize : i.size = size) (hby : i.bytes = bytes) (hzs : z.cells.size = size) (hsz : 0 < size)
    (v : Value) (n : Nat) (xs : List Value) (hs : a.eval s = v) (hown : w.ownsRow base e size v n xs)
    (xv : Value) (m : Nat) (news : List Value) (hx : a.eval x = xv) (hrow : Row anyB w size m xv news) (hnil : NilA xv) (h1 : ∀ u ∈ news, u.oneCell' = true)
    (h63 : n + m ≤ maxLen) (hbytes : (n + m) * bytes ≤ 140737488355328) (hbase : base ≤ w.heap.size)
    (h : ∀ v' w', w'.ownsRow base e size v' (n + m) (xs ++ news) → w.grownBy w' v.ownBlock → wpList Try.prog ops Q rest (a.put o.dst v') w') : wpList Try.prog ops Q (o :: rest) a w :=
  wpList_plain hgd fun _ hK => wp_append_rowC s x t ho base e i z size bytes ht hi hz hsize hby hzs hsz v n xs hs hown xv m news hx hrow hnil h1 h63 hbytes hbase fun v' w' h2 h3 => hK _ _ (h v' w' h2 h3)
theorem chC_oneL (l : List Ch) : ∀ u ∈ flatC chC l, u.oneCell' = true := by
  intro u hu
  unfold flatC at hu
  obtain ⟨x, _, hx⟩ := List.mem_flatMap.1 hu
  exact chC_one x u hx
/-- list[p:] and list[:p] of a row of choices. -/
theorem slice71 (a : Option Addr) (n cap p : Nat) (hp : p ≤ n) {S : Nat → Prop} {w : World} {l : List Ch} (hl : l.length = n) (h : Row S w 7 n (.slice a n cap) (flatC chC l)) (hn : NilA (.slice a n cap)) :
    (∃ a', (∀ W, (Instr.slice 71 (.slice a n cap) (some (.int .i64 (p : Int))) none none).run Try.prog W = .ok (.slice a' (n - p) (cap - p)) W) ∧ Row S w 7 (l.drop p).length (.slice a' (n - p) (cap - p)) (flatC chC (l.drop p)) ∧ NilA (.slice a' (n - p) (cap - p))) ∧
    (∀ W, (Instr.slice 71 (.slice a n cap) none (some (.int .i64 (p : Int))) none).run Try.prog W = .ok (.slice a p cap) W) ∧ Row S w 7 (l.take p).length (.slice a p cap) (flatC chC (l.take p)) ∧ NilA (.slice a p cap) := by
  obtain ⟨_, _, e0, hc⟩ := h.shape
  cases e0
  have hdl : (l.drop p).length = n - p := by rw [List.length_drop, hl]
  have htl : (l.take p).length = p := by rw [List.length_take, hl]; omega
  rw [hdl, htl, flatC_drop chC_len, flatC_take chC_len]
  rcases a with _ | a
  · obtain rfl := hn _ _ rfl
    obtain rfl : n = 0 := by omega
    obtain rfl : p = 0 := by omega
    have hl0 : l = [] := List.length_eq_zero_iff.1 hl
    subst hl0
    exact ⟨⟨none, fun W => by simp [go_sem, sliced], Row.nil _ _ _ _ _, fun n c e => by cases e; rfl⟩, fun W => by simp [go_sem, sliced], Row.nil _ _ _ _ _, fun n c e => by cases e; rfl⟩
  · by_cases hn0 : n = 0
    · subst hn0
      obtain rfl : p = 0 := by omega
      have hl0 : l = [] := List.length_eq_zero_iff.1 hl
      subst hl0
      by_cases e : cap = 0
      · subst e
        exact ⟨⟨some a, fun W => by simp [go_sem, sliced], Row.nil _ _ _ _ _, fun n c e => by cases e⟩, fun W => by simp [go_sem, sliced], Row.nil _ _ _ _ _, fun n c e => by cases e⟩
      · exact ⟨⟨some (a.add 0), fun W => by simp [go_sem, sliced, e], Row.nil _ _ _ _ _, fun n c e => by cases e⟩, fun W => by simp [go_sem, sliced], Row.nil _ _ _ _ _, fun n c e => by cases e⟩
    · obtain ⟨b, off, hab, _⟩ := h.at hn0
      cases hab
      refine ⟨?_, fun W => by simp [go_sem, sliced]; omega, h.take hp, fun n c e => by cases e⟩
      by_cases e : cap = p
      · obtain rfl : n = p := by omega
        subst e
        refine ⟨some ⟨b, off, none⟩, fun W => by simp [go_sem, sliced], ?_, fun n c e => by cases e⟩
        rw [List.drop_of_length_le (by rw [flatC_len chC_len, hl]; exact Nat.le_refl _), Nat.sub_self]
        exact Row.nil _ _ _ _ _
      · refine ⟨some ⟨b, off + p * 7, none⟩, fun W => ?_, h.drop hp, fun n c e => by cases e⟩
        simp [go_sem, sliced]
        rw [if_pos (by omega), if_neg e]
set_option maxRecDepth 100000 in
set_option maxHeartbeats 4000000 in
theorem with_any (s : List Ch) (x : Ch) (sv : Value) (w : World) (hl : s.length < 96) (ha : AscC s) (hx : ChOk x) (hno : getC s x.k = none) (hs : Row anyB w 7 s.length sv (flatC chC s)) (hn : NilA sv) :
    Calls Try.prog 55 #[.agg #[sv], .agg #[.int .u8 x.k.kind, .int .i64 x.k.a, .int .i64 x.k.b, .int .i64 x.k.n, .int .i64 x.t, .int .i64 0, .slice none 0 0]] w fun e w' => (∃ p v, PlaceC s x.k p ∧ e = .returned (.tuple #[.agg #[v], .int .i64 0]) ∧ w'.ownsRow w.heap.size 113 7 v (insC s p x).length (flatC chC (insC s p x))) ∧ Below w.heap.size w w' := by
  obtain ⟨sa, sc, rfl, _⟩ := hs.shape
  have HS := Lib.hid hs; clear hs
  have HN := Lib.hid hn; clear hn
  have HA := Lib.hid ha
  have HNO := Lib.hid hno
  have HCK := Lib.hid (show ∀ W, Calls Try.prog 99 #[.agg #[.int .u8 x.k.kind, .int .i64 x.k.a, .int .i64 x.k.b, .int .i64 x.k.n, .int .i64 x.t, .int .i64 0, .slice none 0 0]] W fun e w' => e = .returned (.int .i64 0) ∧ Lay W w' from fun W => checkCh_any x W hx)
  have HCL := Lib.hid (show ∀ W, Calls Try.prog 100 #[.agg #[.int .u8 x.k.kind, .int .i64 x.k.a, .int .i64 x.k.b, .int .i64 x.k.n, .int .i64 x.t, .int .i64 0, .slice none 0 0]] W fun e w' => e = .returned (.agg #[.int .u8 x.k.kind, .int .i64 x.k.a, .int .i64 x.k.b, .int .i64 x.k.n, .int .i64 x.t, .int .i64 0, .slice none 0 0]) ∧ Lay W w' from fun W => cloneCh_any x W)
  have HFD := Lib.hid (fun W (hW : More w W) => find_any s x.k _ W (by omega) ha (HS.out.below hW.below))
  obtain ⟨i0, hi0, hz0, hz1, hz2⟩ := info_parts info113
  have hmk : ∀ w, (Instr.makeSlice 71 (.int .i64 0) (.int .i64 ((s.length : Int) + 1))).run Try.prog w = .ok (.slice (some ⟨w.heap.size, 0, none⟩) 0 (s.length + 1)) (w.alloc (.cells (madeCells #[.int .u8 0, .int .i64 0, .int .i64 0, .int .i64 0, .int .i64 0, .int .i64 0, .slice none 0 0] ((s.length + 1) * 7)) 113)) := fun w => by
    have := run_make71 (s.length + 1) (by omega) w
    rw [show ((s.length + 1 : Nat) : Int) = (s.length : Int) + 1 by omega] at this
    exact this
  clear ha hx hno
  go_enter Try.func55, Try.ntmps55
  go_upto_region 1 with (fail)
  obtain ⟨b1, b2, hm⟩ := boxed2 w (.cells #[.slice sa s.length sc] 73) (.cells #[.int .u8 x.k.kind, .int .i64 x.k.a, .int .i64 x.k.b, .int .i64 x.k.n, .int .i64 x.t, .int .i64 0, .slice none 0 0] 113)
  have HSB := Lib.hid (((more_alloc ((w.alloc (.cells #[.slice sa s.length sc] 73)).alloc (.cells #[.int .u8 x.k.kind, .int .i64 x.k.a, .int .i64 x.k.b, .int .i64 x.k.n, .int .i64 x.t, .int .i64 0, .slice none 0 0] 113)) (.cells #[.slice none 0 0] 73)).block (blk_lt b1)).trans b1)
  have HXB := Lib.hid (((more_alloc ((w.alloc (.cells #[.slice sa s.length sc] 73)).alloc (.cells #[.int .u8 x.k.kind, .int .i64 x.k.a, .int .i64 x.k.b, .int .i64 x.k.n, .int .i64 x.t, .int .i64 0, .slice none 0 0] 113)) (.cells #[.slice none 0 0] 73)).block (blk_lt b2)).trans b2)
  have HRB := Lib.hid (alloc_last ((w.alloc (.cells #[.slice sa s.length sc] 73)).alloc (.cells #[.int .u8 x.k.kind, .int .i64 x.k.a, .int .i64 x.k.b, .int .i64 x.k.n, .int .i64 x.t, .int .i64 0, .slice none 0 0] 113)) (.cells #[.slice none 0 0] 73))
  have HM2 := Lib.hid (more_trans hm.1 (more_alloc _ (.cells #[.slice none 0 0] 73)))
  have hsz2 : ((w.alloc (.cells #[.slice sa s.length sc] 73)).alloc (.cells #[.int .u8 x.k.kind, .int .i64 x.k.a, .int .i64 x.k.b, .int .i64 x.k.n, .int .i64 x.t, .int .i64 0, .slice none 0 0] 113)).heap.size = w.heap.size + 1 + 1 := by simp
  rw [hsz2] at HRB
  generalize ((w.alloc (.cells #[.slice sa s.length sc] 73)).alloc (.cells #[.int .u8 x.k.kind, .int .i64 x.k.a, .int .i64 x.k.b, .int .i64 x.k.n, .int .i64 x.t, .int .i64 0, .slice none 0 0] 113)).alloc (.cells #[.slice none 0 0] 73) = w2 at *
  obtain ⟨SB, HSE⟩ : ∃ SB, Hid (SB = w.heap.size) := ⟨_, Lib.hid rfl⟩
  obtain ⟨XB, HXE⟩ : ∃ XB, Hid (XB = w.heap.size + 1) := ⟨_, Lib.hid rfl⟩
  obtain ⟨RB, HRE⟩ : ∃ RB, Hid (RB = w.heap.size + 1 + 1) := ⟨_, Lib.hid rfl⟩
  rw [← HRE.out] at HRB ⊢
  rw [← HXE.out] at HXB ⊢
  rw [← HSE.out] at HSB ⊢
  clear b1 b2 hm hsz2
  have c0 : w2.cell? ⟨XB, 0, none⟩ = some (.int .u8 x.k.kind) := cell_of_blk HXB.out rfl
  have c1 : w2.cell? ⟨XB, 1, none⟩ = some (.int .i64 x.k.a) := cell_of_blk HXB.out rfl
  have c2 : w2.cell? ⟨XB, 2, none⟩ = some (.int .i64 x.k.b) := cell_of_blk HXB.out rfl
  have c3 : w2.cell? ⟨XB, 3, none⟩ = some (.int .i64 x.k.n) := cell_of_blk HXB.out rfl
  have c4 : w2.cell? ⟨XB, 4, none⟩ = some (.int .i64 x.t) := cell_of_blk HXB.out rfl
  have c5 : w2.cell? ⟨XB, 5, none⟩ = some (.int .i64 0) := cell_of_blk HXB.out rfl
  have c6 : w2.cell? ⟨XB, 6, none⟩ = some (.slice none 0 0) := cell_of_blk HXB.out rfl
  have hxb := cell_lt c0
  go_wp2_with fail
  refine (HCK.out _).mono ?_
  rintro e w3 ⟨rfl, hl3⟩
  have HM3 := Lib.hid (more_trans HM2.out hl3.1)
  have HSB3 := Lib.hid ((hl3.1.block (blk_lt HSB.out)).trans HSB.out)
  have HXB3 := Lib.hid ((hl3.1.block (blk_lt HXB.out)).trans HXB.out)
  have HRB3 := Lib.hid ((hl3.1.block (blk_lt HRB.out)).trans HRB.out)
  clear c0 c1 c2 c3 c4 c5 c6 hxb hl3 HSB HXB HRB HM2
  have c0 : w3.cell? ⟨XB, 0, none⟩ = some (.int .u8 x.k.kind) := cell_of_blk HXB3.out rfl
  have c1 : w3.cell? ⟨XB, 1, none⟩ = some (.int .i64 x.k.a) := cell_of_blk HXB3.out rfl
  have c2 : w3.cell? ⟨XB, 2, none⟩ = some (.int .i64 x.k.b) := cell_of_blk HXB3.out rfl
  have c3 : w3.cell? ⟨XB, 3, none⟩ = some (.int .i64 x.k.n) := cell_of_blk HXB3.out rfl
  have s0 : w3.cell? ⟨SB, 0, none⟩ = some (.slice sa s.length sc) := cell_of_blk HSB3.out rfl
  have hxb := cell_lt c0
  have hsb := cell_lt s0
  go_wp2_with fail
  refine (HFD.out _ HM3.out).mono ?_
  rintro e w4 ⟨⟨p, hp, rfl⟩, hl4⟩
  have HP := Lib.hid hp
  have HZ := Lib.hid (show (s[p]?.map (·.k) == some x.k) = false by
    rw [Bool.eq_false_iff]
    intro hz
    have hpl : p < s.length := by
      by_cases hh : p < s.length
      · exact hh
      · rw [List.getElem?_eq_none (by omega)] at hz; simp at hz
    have hk : s[p].k = x.k := by rw [List.getElem?_eq_getElem hpl] at hz; simpa using hz
    exact getC_none' HNO.out _ (List.getElem_mem hpl) hk)
  rw [HZ.out]
  have HM4 := Lib.hid (more_trans HM3.out hl4.1)
  have HSB4 := Lib.hid ((hl4.1.block (blk_lt HSB3.out)).trans HSB3.out)
  have HXB4 := Lib.hid ((hl4.1.block (blk_lt HXB3.out)).trans HXB3.out)
  have HRB4 := Lib.hid ((hl4.1.block (blk_lt HRB3.out)).trans HRB3.out)
  have hpl := hp.1
  clear c0 c1 c2 c3 s0 hxb hsb hl4 hp HSB3 HXB3 HRB3 HM3
  have HR4 := Lib.hid (HS.out.below HM4.out.below)
  obtain ⟨⟨a', hsl1, hr1, hn1⟩, hsl2, hr2, hn2⟩ := slice71 sa s.length sc p hpl rfl HR4.out HN.out
  have HR1 := Lib.hid hr1
  have HR2 := Lib.hid hr2
  have HN1 := Lib.hid hn1
  have HN2 := Lib.hid hn2
  clear hr1 hr2 hn1 hn2
  have s0 : w4.cell? ⟨SB, 0, none⟩ = some (.slice sa s.length sc) := cell_of_blk HSB4.out rfl
  have hsb := cell_lt s0
  have hmk4 := hmk w4
  have HROW := Lib.hid (World.ownsRow_made (base := w4.heap.size) (e := 113) (size := 7) w4 (madeCells #[.int .u8 0, .int .i64 0, .int .i64 0, .int .i64 0, .int .i64 0, .int .i64 0, .slice none 0 0] ((s.length + 1) * 7)) (s.length + 1) (Nat.le_refl _) (by unfold maxLen; omega) (by simp [madeCells]))
  have HM5 := Lib.hid (more_alloc w4 (.cells (madeCells #[.int .u8 0, .int .i64 0, .int .i64 0, .int .i64 0, .int .i64 0, .int .i64 0, .slice none 0 0] ((s.length + 1) * 7)) 113))
  clear hmk
  go_upto_region 10 with (fail)
  clear hmk4 s0 hsb
  obtain ⟨N, HNN⟩ : ∃ N, Hid (N = w4.heap.size) := ⟨_, Lib.hid rfl⟩
  rw [← HNN.out] at HROW ⊢
  generalize w4.alloc (.cells (madeCells #[.int .u8 0, .int .i64 0, .int .i64 0, .int .i64 0, .int .i64 0, .int .i64 0, .slice none 0 0] ((s.length + 1) * 7)) 113) = w5 at *
  have HSB5 := Lib.hid ((HM5.out.block (blk_lt HSB4.out)).trans HSB4.out)
  have s0 : w5.cell? ⟨SB, 0, none⟩ = some (.slice sa s.length sc) := cell_of_blk HSB5.out rfl
  have hsb := cell_lt s0
  have HTL := Lib.hid (show (s.take p).length = p by rw [List.length_take]; omega)
  have HDL := Lib.hid (show (s.drop p).length = s.length - p by rw [List.length_drop])
  have HR2a := Lib.hid (show Row anyB w5 7 p (.slice sa p sc) (flatC chC (s.take p)) by have := HR2.out.below HM5.out.below; rw [HTL.out] at this; exact this)
  have hm1 : 0 + p ≤ maxLen := by unfold maxLen; omega
  have hm2 : (0 + p) * 72 ≤ 140737488355328 := by omega
  have HNZ := Lib.hid (show N ≤ w5.heap.size by rw [HNN.out]; exact HM5.out.size)
  go_wp2_with (at_builtin; refine wpList_append_rowC rfl _ _ 71 rfl N 113 i0 _ 7 72 Try.underlying71 hi0 hz0 hz1 hz2 rfl (by omega) (.slice (some ⟨N, 0, none⟩) 0 (s.length + 1)) 0 [] rfl HROW.out (.slice sa p sc) p (flatC chC (s.take p)) rfl HR2a.out HN2.out (chC_oneL _) hm1 hm2 HNZ.out ?_; intro v6 w6 hown6 hgrow6; rw [Nat.zero_add, List.nil_append] at hown6; have HO6 := Lib.hid hown6; obtain ⟨oa6, oc6, rfl, HZ6⟩ := owns_shape hown6; have HG6 := Lib.hid (show More w4 w6 from ⟨hgrow6.os.trans HM5.out.os, hgrow6.tape.trans HM5.out.tape, hgrow6.output.trans HM5.out.output, Nat.le_trans HM5.out.size hgrow6.size, fun b hb _ => (hgrow6.block b (Nat.lt_of_lt_of_le hb HM5.out.size) (fun e => by have h1 : b = N := Option.some.inj e; have h3 := HNN.out; omega)).trans (HM5.out.block hb)⟩); have HZZ6 := Lib.hid HZ6; have HXB6 := Lib.hid ((HG6.out.block (blk_lt HXB4.out)).trans HXB4.out); clear hown6 hgrow6 HZ6; have c0 : w6.cell? ⟨XB, 0, none⟩ = some (.int .u8 x.k.kind) := cell_of_blk HXB6.out rfl; have c1 : w6.cell? ⟨XB, 1, none⟩ = some (.int .i64 x.k.a) := cell_of_blk HXB6.out rfl; have c2 : w6.cell? ⟨XB, 2, none⟩ = some (.int .i64 x.k.b) := cell_of_blk HXB6.out rfl; have c3 : w6.cell? ⟨XB, 3, none⟩ = some (.int .i64 x.k.n) := cell_of_blk HXB6.out rfl; have c4 : w6.cell? ⟨XB, 4, none⟩ = some (.int .i64 x.t) := cell_of_blk HXB6.out rfl; have c5 : w6.cell? ⟨XB, 5, none⟩ = some (.int .i64 0) := cell_of_blk HXB6.out rfl; have c6 : w6.cell? ⟨XB, 6, none⟩ = some (.slice none 0 0) := cell_of_blk HXB6.out rfl; have hxb := cell_lt c0)
  refine (HCL.out _).mono ?_
  rintro e w7 ⟨rfl, hl7⟩
  have HG7 := Lib.hid (more_trans HG6.out hl7.1)
  have HO7 := Lib.hid (owns_keep HO6.out (fun z hz => hl7.1.block (HZZ6.out z hz).2))
  have HZ7 := Lib.hid (fun z hz => (owns_shape HO7.out).choose_spec.choose_spec.2 z hz)
  have HN7 := Lib.hid (show N ≤ w7.heap.size from Nat.le_trans (by rw [HNN.out]; exact Nat.le_refl _) HG7.out.size)
  clear c0 c1 c2 c3 c4 c5 c6 hxb hl7 s0 hsb HO6 HZZ6 HXB6 HG6
  have hm3 : p + 1 ≤ maxLen := by unfold maxLen; omega
  have hm4 : (p + 1) * 72 ≤ 140737488355328 := by omega
  have hm5 : p + 1 + (s.length - p) ≤ maxLen := by unfold maxLen; omega
  have hm6 : (p + 1 + (s.length - p)) * 72 ≤ 140737488355328 := by omega
  go_wp2_with (at_builtin; first
    | (refine wpList_append_own _ rfl _ _ 71 rfl N 113 i0 _ 7 72 Try.underlying71 hi0 hz0 hz1 hz2 rfl (by omega) (.slice oa6 p oc6) p (flatC chC (s.take p)) rfl (owns_keep HO7.out (fun z hz => Below.heap_alloc w7 _ _ (HZ7.out z hz).2)) ⟨w7.heap.size, 0, none⟩ 1 1 [.int .u8 x.k.kind, .int .i64 x.k.a, .int .i64 x.k.b, .int .i64 x.k.n, .int .i64 x.t, .int .i64 0, .slice none 0 0] rfl rfl (World.news_of_block (cs := #[.int .u8 x.k.kind, .int .i64 x.k.a, .int .i64 x.k.b, .int .i64 x.k.n, .int .i64 x.t, .int .i64 0, .slice none 0 0]) (t := 113) (fr := (0, 0)) (alloc_last _ _)) (by simp [Value.oneCell']) hm3 hm4 (by rw [World.size_alloc]; exact Nat.le_succ_of_le HN7.out) ?_; intro v8 w8 hown8 hgrow8 _; rw [show [.int .u8 x.k.kind, .int .i64 x.k.a, .int .i64 x.k.b, .int .i64 x.k.n, .int .i64 x.t, .int .i64 0, .slice none 0 0] = chC x from rfl, ← flatC_push] at hown8; have HO8 := Lib.hid hown8; obtain ⟨oa8, oc8, rfl, HZ8⟩ := owns_shape hown8; have HZZ8 := Lib.hid HZ8; have HG8 := Lib.hid (show More w4 w8 from ⟨hgrow8.os.trans HG7.out.os, hgrow8.tape.trans HG7.out.tape, hgrow8.output.trans HG7.out.output, Nat.le_trans HG7.out.size (Nat.le_trans (by simp) hgrow8.size), fun b hb _ => (hgrow8.block b (Nat.lt_of_lt_of_le hb (Nat.le_trans HG7.out.size (by simp))) (fun e => by have h1 := (HZ7.out b e.symm).1; have h3 := HNN.out; omega)).trans ((Below.heap_alloc w7 _ _ (Nat.lt_of_lt_of_le hb HG7.out.size)).trans (HG7.out.block hb))⟩); have HSB8 := Lib.hid ((HG8.out.block (blk_lt HSB4.out)).trans HSB4.out); have s0 : w8.cell? ⟨SB, 0, none⟩ = some (.slice sa s.length sc) := cell_of_blk HSB8.out rfl; have hsb := cell_lt s0; have HR18 := Lib.hid (show Row anyB w8 7 (s.length - p) (.slice a' (s.length - p) (sc - p)) (flatC chC (s.drop p)) by have := HR1.out.below HG8.out.below; rw [HDL.out] at this; exact this); have HN8 := Lib.hid (show N ≤ w8.heap.size from Nat.le_trans (by rw [HNN.out]; exact Nat.le_refl _) HG8.out.size); clear hown8 hgrow8 HZ8)
    | (refine wpList_append_rowC rfl _ _ 71 rfl N 113 i0 _ 7 72 Try.underlying71 hi0 hz0 hz1 hz2 rfl (by omega) (.slice oa8 (p + 1) oc8) (p + 1) (flatC chC (s.take p ++ [x])) rfl HO8.out (.slice a' (s.length - p) (sc - p)) (s.length - p) (flatC chC (s.drop p)) rfl HR18.out HN1.out (chC_oneL _) hm5 hm6 HN8.out ?_; intro v9 w9 hown9 hgrow9; have HO9 := Lib.hid hown9; obtain ⟨oa9, oc9, rfl, HZ9⟩ := owns_shape hown9; have HZZ9 := Lib.hid HZ9; have HG9 := Lib.hid (show More w4 w9 from ⟨hgrow9.os.trans HG8.out.os, hgrow9.tape.trans HG8.out.tape, hgrow9.output.trans HG8.out.output, Nat.le_trans HG8.out.size hgrow9.size, fun b hb _ => (hgrow9.block b (Nat.lt_of_lt_of_le hb HG8.out.size) (fun e => by have h1 := (HZZ8.out b e.symm).1; have h3 := HNN.out; omega)).trans (HG8.out.block hb)⟩); have HRB9 := Lib.hid ((HG9.out.block (blk_lt HRB4.out)).trans HRB4.out); have k0 : w9.cell? ⟨RB, 0, none⟩ = some (.slice none 0 0) := cell_of_blk HRB9.out rfl; have f0 := thaw HRB9.out 0; have hrb := cell_lt k0; clear hown9 hgrow9 HZ9))
  have c0 : (w9.setCell ⟨RB, 0, none⟩ (.slice oa9 (p + 1 + (s.length - p)) oc9)).cell? ⟨RB, 0, none⟩ = some (.slice oa9 (p + 1 + (s.length - p)) oc9) := setCell_eq k0
  have HNR := Lib.hid (show RB < N by rw [HNN.out]; exact blk_lt HRB4.out)
  have HWR := Lib.hid (show w.heap.size ≤ RB by rw [HRE.out]; omega)
  refine bodyPost_ret (v := .tuple #[.agg #[.slice oa9 (p + 1 + (s.length - p)) oc9], .int .i64 0]) (by simp [results, Try.results55, go_sem, c0]) rfl ⟨⟨p, _, HP.out, rfl, ?_⟩, ?_⟩
  · have e1 : (insC s p x).length = p + 1 + (s.length - p) := by rw [insC_len hpl]; omega
    have e2 : flatC chC (insC s p x) = flatC chC (s.take p ++ [x]) ++ flatC chC (s.drop p) := by unfold insC; rw [← flatC_append, List.append_assoc]; rfl
    rw [e1, e2]
    exact owns_base (owns_keep HO9.out (fun z hz => Below.heap_setCell _ _ _ _ (show z ≠ RB from by have := (HZZ9.out z hz).1; have := HNR.out; omega))) (by have := HNR.out; have := HWR.out; omega)
  · exact ((more_trans HM4.out HG9.out).below).setCell (p := ⟨RB, 0, none⟩) HWR.out _
end Go.Proofs.Ytemeppfikpafbaa
