/- The walk of RankOrder (6). -/
import Derived.Test.YtemeppfikpafbaaNest
import Derived.Test.YtemeppfikpafbaaAwk
import Derived.Test.YtemeppfikpafbaaOpenR
import Derived.Test.YtemeppfikpafbaaInvS
import Derived.Test.YtemeppfikpafbaaGrowsW
import Derived.Deep.DeepCutAuto
namespace Go.Proofs.Ytemeppfikpafbaa
open Go.RowKit Go.ChangeShapes Go.WideShapes
theorem grown_cell {w w' : World} {row : Option Nat} (h : w.grownBy w' row) {b o : Nat} {v : Value} (hc : w.cell? ⟨b, o, none⟩ = some v) (hr : row ≠ some b) : w'.cell? ⟨b, o, none⟩ = some v := by
  rw [World.cell?_of_block (w := w) (a := ⟨b, o, none⟩) (h.block b (cell_lt hc) (fun e => hr e.symm))]; exact hc
theorem grown_thaw {w w' : World} {row : Option Nat} (h : w.grownBy w' row) {b o : Nat} {v : Value} (hc : w.cell? ⟨b, o, none⟩ = some v) (hf : w.frozen? ⟨b, o, none⟩ = false) (hr : row ≠ some b) : w'.frozen? ⟨b, o, none⟩ = false := by
  rw [World.frozen?_of_block (w := w) (a := ⟨b, o, none⟩) (h.block b (cell_lt hc) (fun e => hr e.symm))]; exact hf
theorem owns_nilA {w : World} {B : Nat} {e : TypeId} {n size : Nat} {v : Value} {xs : List Value} (h : w.ownsRow B e size v n xs) : NilA v := by
  intro m c he
  obtain ⟨_, ⟨hv, _⟩ | ⟨g, cap, cur, hv, _⟩⟩ := h
  · rw [hv] at he; cases he; rfl
  · rw [hv] at he; cases he
theorem ne_of_own {gg n c y XB : Nat} (h : (Value.slice (some ⟨gg, 0, none⟩) n c).ownBlock = some y) (hg : gg ≠ XB) : y ≠ XB := by
  have h1 : gg = y := by simpa [Value.ownBlock] using h
  rw [← h1]; exact hg
def turnQ (U : List K4) (q : Nat) : List K4 := (U.drop q).reverse.flatMap fun k => [k, U.head?.getD k]
def turnR (V : List M3) (q : Nat) : List M3 := (V.drop q).reverse.flatMap fun k => [k, k]
theorem turnQ_zero (U : List K4) : turnQ U 0 = turnU U := rfl
theorem turnR_zero (V : List M3) : turnR V 0 = turnH V := rfl
theorem turnQ_all (U : List K4) : turnQ U U.length = [] := by unfold turnQ; rw [List.drop_length]; rfl
theorem turnR_all (V : List M3) : turnR V V.length = [] := by unfold turnR; rw [List.drop_length]; rfl
theorem turnQ_step (U : List K4) (q : Nat) (h : q < U.length) : turnQ U q = turnQ U (q + 1) ++ [U[q], U[0]'(by omega)] := by
  unfold turnQ
  rw [List.drop_eq_getElem_cons h, List.reverse_cons, List.flatMap_append]
  congr 1
  simp [List.head?_eq_getElem?, List.getElem?_eq_getElem (show 0 < U.length by omega)]
theorem turnR_step (V : List M3) (q : Nat) (h : q < V.length) : turnR V q = turnR V (q + 1) ++ [V[q], V[q]] := by
  unfold turnR
  rw [List.drop_eq_getElem_cons h, List.reverse_cons, List.flatMap_append]
  congr 1
theorem turn_step (L : List Cau) (q : Nat) (h : q < L.length) : (L.drop q).reverse.map turnC = (L.drop (q + 1)).reverse.map turnC ++ [turnC L[q]] := by
  rw [List.drop_eq_getElem_cons h, List.reverse_cons, List.map_append]
  rfl
theorem len_turnQ (U : List K4) (q : Nat) : (turnQ U q).length = 2 * (U.length - q) := by
  unfold turnQ
  exact (flat2_len _ (fun _ => rfl) _).trans (by rw [List.length_reverse, List.length_drop])
theorem len_turnR (V : List M3) (q : Nat) : (turnR V q).length = 2 * (V.length - q) := by
  unfold turnR
  exact (flat2_len _ (fun _ => rfl) _).trans (by rw [List.length_reverse, List.length_drop])
set_option maxRecDepth 100000 in
set_option maxHeartbeats 8000000 in
theorem rankOrder_walk (l0 : List Cau) (v : Value) (w : World) (h : InL w l0 v) : Calls Try.prog 6 #[v] w fun e w' => e = .returned (.bool true) ∧ Below w.heap.size w w' := by
  have HI := Lib.hid h; clear h
  have HAW := Lib.hid (awake_any w)
  obtain ⟨i0, hi0, hz0, hz1, hz2⟩ := info_parts info36
  obtain ⟨i1, hi1, hy0, hy1, hy2⟩ := info_parts info48
  obtain ⟨i2, hi2, hx0, hx1, hx2⟩ := info_parts info54
  go_enter Try.func6, Try.ntmps6
  go_wp2_with fail
  refine HAW.out.mono ?_
  rintro e w1 ⟨rfl, hm1⟩
  have HM1 := Lib.hid hm1
  clear hm1 HAW
  go_wp2_with fail
  refine (few_any l0 _ w1 HI.out.len HI.out.each (HI.out.row.more HM1.out)).mono ?_
  rintro e w2 ⟨⟨v2, rfl, hc2⟩, hb2⟩
  have HOK := Lib.hid (fewL_ok HI.out.ok)
  have HLN := Lib.hid (fewL_len l0)
  have HEA := Lib.hid (fewL_each l0)
  have HC2 := Lib.hid hc2
  have HM2 := Lib.hid (more_trans HM1.out (more_of hb2))
  clear hc2 hb2 HI HM1
  generalize fewL l0 = L at *
  obtain ⟨a2, cap2, rfl, _⟩ := HC2.out.shape
  have hln := HLN.out
  have hwl : IntKind.i64.wrap ((L.length : Int) - 1) = (L.length : Int) - 1 := by rw [IntKind.wrap_i64]; omega
  obtain ⟨N, HN⟩ : ∃ N, Hid (N = w2.heap.size) := ⟨_, Lib.hid rfl⟩
  go_wp2_with fail
  go_loopw [3, 4] (fun d i wr => ∃ m : Nat, m ≤ L.length ∧ i = .int .i64 ((m : Int) - 1) ∧ Hid (Below N w2 wr) ∧ Hid (Nest N wr d ((L.drop m).reverse.map turnC))) (fun _ i _ => (intOf i + 1).toNat)
  case atStart => exact ⟨L.length, Nat.le_refl _, rfl, Lib.hid (Below.refl _ _), Lib.hid (by rw [List.drop_length]; exact Nest.nil _ _)⟩
  case round =>
    obtain ⟨m, hm, rfl, HB, HNE⟩ := hrel
    clear hwl
    have HBW := Lib.hid (show Below w2.heap.size w2 wr by rw [← HN.out]; exact HB.out)
    have HNW := Lib.hid (show N ≤ wr.heap.size by rw [HN.out]; exact HBW.out.size)
    have HTL := Lib.hid (show ((L.drop m).reverse.map turnC).length = L.length - m by simp)
    obtain ⟨oa, ocap, hd, hob⟩ := HNE.out.shape
    subst hd
    rw [HTL.out] at HNE hob ⊢
    have HOB := Lib.hid hob; clear hob
    rcases Nat.eq_zero_or_pos m with h0 | h0
    · subst h0
      rw [show (((0 : Nat) : Int) - 1) = -1 from rfl]
      have HCT := Lib.hid (show CRow wr (L.reverse.map turnC) (.slice oa (L.length - 0) ocap) from HNE.out.crow)
      have HTO := Lib.hid (turn_ok HOK.out HEA.out)
      have HTN := Lib.hid (show (L.reverse.map turnC).length ≤ 8 by simp; exact HLN.out)
      have HMR := Lib.hid (more_of HBW.out)
      simp only [Nat.sub_zero] at HCT ⊢
      clear HNE HOB HNW HB
      go_wp2_with fail
      refine (causes_any L _ wr (by have := HLN.out; omega) (HC2.out.more HMR.out)).mono ?_
      rintro e w3 ⟨⟨v3, rfl, hc3⟩, hb3⟩
      have HC3 := Lib.hid hc3
      have HM3 := Lib.hid (more_of hb3)
      clear hc3 hb3
      go_wp2_with fail
      refine (degrees_any L _ w3 (by have := HLN.out; omega) HOK.out HC3.out).mono ?_
      rintro e w4 ⟨s, sv, his, rfl, ho4, hb4⟩
      have HS := Lib.hid his
      have HSR := Lib.hid ((Row.of_owns ho4).mono (S' := anyB) (fun _ _ => trivial) (fun _ _ _ _ h => h))
      have HM4 := Lib.hid (more_trans HM3.out (more_of hb4))
      clear his ho4 hb4
      go_wp2_with fail
      refine (causes_any (L.reverse.map turnC) _ w4 (by have := HTN.out; omega) (HCT.out.more HM4.out)).mono ?_
      rintro e w5 ⟨⟨v5, rfl, hc5⟩, hb5⟩
      have HC5 := Lib.hid hc5
      have HM5 := Lib.hid (more_trans HM4.out (more_of hb5))
      have HSR5 := Lib.hid (HSR.out.below hb5)
      clear hc5 hb5
      go_wp2_with fail
      refine (degrees_any (L.reverse.map turnC) _ w5 (by have := HTN.out; omega) HTO.out HC5.out).mono ?_
      rintro e w6 ⟨t, tv, hit, rfl, ho6, hb6⟩
      have HST := Lib.hid (show s = t from (List.map_inj_right (fun _ _ => shN_inj)).1 (turn_shares HS.out hit))
      have HTR := Lib.hid ((Row.of_owns ho6).mono (S' := anyB) (fun _ _ => trivial) (fun _ _ _ _ h => h))
      have HSR6 := Lib.hid (HSR5.out.below hb6)
      have HM6 := Lib.hid (more_trans HM5.out (more_of hb6))
      have hst := HST.out
      clear hit ho6 hb6 HST
      subst hst
      have HSL := Lib.hid (show s.length ≤ 4000 by have h1 := shares_len HS.out; have := keysL_bound HOK.out HLN.out; omega)
      have hsl := HSL.out
      obtain ⟨sa, scap, rfl, _⟩ := HSR6.out.shape
      obtain ⟨ta, tcap, rfl, _⟩ := HTR.out.shape
      clear HSR HSR5 HC5 HC3
      go_wp2_with fail
      go_loopw [103] (fun i wx => ∃ j : Nat, j ≤ s.length ∧ i = .int .i64 j ∧ Hid (More w6 wx)) (fun i _ => s.length - (intOf i).toNat)
      case atStart => exact ⟨0, Nat.zero_le _, rfl, Lib.hid (World.grownBy.refl _ _)⟩
      case round =>
        obtain ⟨j, hj, rfl, HMx⟩ := hrel
        by_cases hlt : j < s.length
        · obtain ⟨b, off, rfl, _, hc⟩ := HSR6.out.atC sC_len hlt
          have g0 := HMx.out.cell (hc 0 (.int .u8 s[j].1.kind) rfl)
          have g1 := HMx.out.cell (hc 1 (.int .i64 s[j].1.a) rfl)
          have g2 := HMx.out.cell (hc 2 (.int .i64 s[j].1.b) rfl)
          have g3 := HMx.out.cell (hc 3 (.int .i64 s[j].1.n) rfl)
          have g4 := HMx.out.cell (hc 4 (.int .i64 (degR s[j].2.val).1) rfl)
          have g5 := HMx.out.cell (hc 5 (.int .i64 (degR s[j].2.val).2) rfl)
          rw [Nat.add_zero] at g0
          obtain ⟨b', off', rfl, _, hc⟩ := HTR.out.atC sC_len hlt
          have e0 := HMx.out.cell (hc 0 (.int .u8 s[j].1.kind) rfl)
          have e1 := HMx.out.cell (hc 1 (.int .i64 s[j].1.a) rfl)
          have e2 := HMx.out.cell (hc 2 (.int .i64 s[j].1.b) rfl)
          have e3 := HMx.out.cell (hc 3 (.int .i64 s[j].1.n) rfl)
          have e4 := HMx.out.cell (hc 4 (.int .i64 (degR s[j].2.val).1) rfl)
          have e5 := HMx.out.cell (hc 5 (.int .i64 (degR s[j].2.val).2) rfl)
          rw [Nat.add_zero] at e0
          clear hc
          generalize (degR s[j].2.val).1 = d1 at *
          generalize (degR s[j].2.val).2 = d2 at *
          generalize s[j].1 = k at *
          have hbg := cell_lt g0
          have hbe := cell_lt e0
          go_upto_region 24 with (fail)
          go_quiet (fail)
          go_wp2_with fail
          go_roundw
          case rel => exact ⟨j + 1, by omega, by go_num, Lib.hid (more_trans HMx.out (grownBy_drewN wr nq none))⟩
          case measure => simp [intOf]; omega
        · obtain rfl : j = s.length := by omega
          go_wp2_with fail
          go_ret
          exact ⟨rfl, (more_trans HM2.out (more_trans HMR.out (more_trans HM6.out HMx.out))).below⟩
    · obtain ⟨p, rfl⟩ : ∃ p, m = p + 1 := ⟨m - 1, by omega⟩
      rw [show (((p + 1 : Nat) : Int) - 1) = (p : Int) by omega]
      have hpl : p < L.length := by omega
      obtain ⟨b, off, ua, uc, ha, hc', rfl, g0, g1, hcu, hch, _, _⟩ := HC2.out.at' hpl
      have g0 := below_cell HBW.out g0
      have g1 := below_cell HBW.out g1
      have HST := Lib.hid (turn_step L p hpl)
      have HUV := Lib.hid (HEA.out _ (List.getElem_mem hpl))
      generalize L[p] = c at *
      obtain ⟨U, V⟩ := c
      dsimp only at g0 g1 hcu hch HUV
      have HU := Lib.hid (hcu.below HBW.out)
      have HV := Lib.hid (hch.below HBW.out)
      have HG := Lib.hid (And.intro g0 g1)
      have HXB := Lib.hid (alloc_last wr (.cells #[.slice none 0 0, .slice none 0 0] 36))
      have HMX := Lib.hid (more_alloc wr (.cells #[.slice none 0 0, .slice none 0 0] 36))
      have hul := HUV.out.1
      have hvl := HUV.out.2
      have hbg := cell_lt g0
      have hwu : IntKind.i64.wrap ((U.length : Int) - 1) = (U.length : Int) - 1 := by rw [IntKind.wrap_i64]; omega
      have hwv : IntKind.i64.wrap ((V.length : Int) - 1) = (V.length : Int) - 1 := by rw [IntKind.wrap_i64]; omega
      clear hcu hch h0
      go_upto_region 9 with (fail)
      clear g0 g1 hbg
      have g0 := HMX.out.cell HG.out.1
      have hbg := cell_lt g0
      have HS3 := Lib.hid (show wr.heap.size + 1 ≤ (wr.alloc (.cells #[.slice none 0 0, .slice none 0 0] 36)).heap.size by rw [World.size_alloc]; omega)
      obtain ⟨XB, HXX⟩ : ∃ XB, Hid (wr.heap.size = XB) := ⟨_, Lib.hid rfl⟩
      rw [HXX.out] at HXB HS3 ⊢
      have HBX := Lib.hid (show Below XB wr (wr.alloc (.cells #[.slice none 0 0, .slice none 0 0] 36)) by rw [← HXX.out]; exact HMX.out.below)
      generalize wr.alloc (.cells #[.slice none 0 0, .slice none 0 0] 36) = w3 at *
      obtain ⟨wo, rfl⟩ : ∃ wo : World, wo = wr := ⟨_, rfl⟩
      go_wp2_with fail
      go_loopw [6] (fun k wx => ∃ q : Nat, q ≤ U.length ∧ k = .int .i64 ((q : Int) - 1) ∧ Hid (Below XB wo wx) ∧ Hid (XB + 1 ≤ wx.heap.size) ∧ Hid (∃ uv, wx.heap[XB]? = some (.cells #[uv, .slice none 0 0] 36) ∧ wx.ownsRow (XB + 1) 48 4 uv (2 * (U.length - q)) (flatC kC (turnQ U q)))) (fun k _ => (intOf k + 1).toNat)
      case atStart => exact ⟨U.length, Nat.le_refl _, rfl, HBX, HS3, Lib.hid ⟨_, HXB.out, by rw [turnQ_all, Nat.sub_self]; exact World.ownsRow_nil _ _ _ _⟩⟩
      case round =>
        obtain ⟨q, hq, rfl, HBY, HSY, HBK⟩ := hrel
        clear g0 hbg HXB HMX HS3 HBX
        have HBYW := Lib.hid (show Below wo.heap.size wo wr by rw [HXX.out]; exact HBY.out)
        obtain ⟨uv, hblk, huv⟩ := HBK.out
        have HXB := Lib.hid hblk
        have HO := Lib.hid huv
        clear hblk huv HBK
        rcases Nat.eq_zero_or_pos q with h0 | h0
        · subst h0
          rw [show (((0 : Nat) : Int) - 1) = -1 from rfl]
          obtain ⟨wz, rfl⟩ : ∃ wz : World, wz = wr := ⟨_, rfl⟩
          have g1 := below_cell HBYW.out HG.out.2
          have hbg := cell_lt g1
          have HUB := Lib.hid (fun y hy => ((owns_shape HO.out).choose_spec.choose_spec.2 y hy))
          obtain ⟨M2, HM2⟩ : ∃ M2, Hid (M2 = wz.heap.size) := ⟨_, Lib.hid rfl⟩
          rw [← HM2.out] at HUB
          have HSZ := Lib.hid (show M2 ≤ wz.heap.size by rw [HM2.out]; exact Nat.le_refl _)
          have HXM := Lib.hid (show XB + 1 ≤ M2 by rw [HM2.out]; exact HSY.out)
          clear hq
          go_wp2_with fail
          go_loopw [7] (fun k wx => ∃ q : Nat, q ≤ V.length ∧ k = .int .i64 ((q : Int) - 1) ∧ Hid (Below XB wo wx) ∧ Hid (M2 ≤ wx.heap.size) ∧ Hid (wx.ownsRow (XB + 1) 48 4 uv (2 * (U.length - 0)) (flatC kC (turnQ U 0))) ∧ Hid (∃ hv, wx.heap[XB]? = some (.cells #[uv, hv] 36) ∧ wx.ownsRow M2 54 3 hv (2 * (V.length - q)) (flatC mC (turnR V q)))) (fun k _ => (intOf k + 1).toNat)
          case atStart => exact ⟨V.length, Nat.le_refl _, rfl, HBY, HSZ, HO, Lib.hid ⟨_, HXB.out, by rw [turnR_all, Nat.sub_self]; exact World.ownsRow_nil _ _ _ _⟩⟩
          case round =>
            obtain ⟨q, hq, rfl, HBY, HSY, HUO, HBK⟩ := hrel
            clear g1 hbg HXB HO HSZ
            have HBYW := Lib.hid (show Below wo.heap.size wo wr by rw [HXX.out]; exact HBY.out)
            obtain ⟨hv, hblk, hhv⟩ := HBK.out
            have HXB := Lib.hid hblk
            have HO := Lib.hid hhv
            clear hblk hhv HBK
            rcases Nat.eq_zero_or_pos q with h0 | h0
            · subst h0
              rw [show (((0 : Nat) : Int) - 1) = -1 from rfl]
              have HNW2 := Lib.hid (show Nest N wr (.slice oa (L.length - (p + 1)) ocap) ((L.drop (p + 1)).reverse.map turnC) from HNE.out.below HBYW.out)
              have HBN := Lib.hid (show Below N w2 wr from HB.out.trans (HBYW.out.mono HNW.out))
              have HNR := Lib.hid (Nat.le_trans HNW.out HBYW.out.size)
              simp only [Nat.sub_zero] at HUO HO
              obtain ⟨ua, ucap, rfl, _⟩ := owns_shape HUO.out
              obtain ⟨va, vcap, rfl, _⟩ := owns_shape HO.out
              have x0 : wr.cell? ⟨XB, 0, none⟩ = some (.slice ua (2 * U.length) ucap) := cell_of_blk HXB.out rfl
              have x1 : wr.cell? ⟨XB, 1, none⟩ = some (.slice va (2 * V.length) vcap) := cell_of_blk HXB.out rfl
              have hxb := cell_lt x0
              obtain ⟨us, hu1, hu2, hu3⟩ := HNW2.out
              have HU1 := Lib.hid (hu1.trans HTL.out)
              rw [hu1.trans HTL.out] at hu2
              have HU2 := Lib.hid hu2
              have HNC := Lib.hid (show NCell (fun b => (Value.slice oa (L.length - (p + 1)) ocap).ownBlock ≠ some b) wr ((.slice ua (2 * U.length) ucap), (.slice va (2 * V.length) vcap)) (turnC ⟨U, V⟩) from ⟨by
                have h1 := (Row.of_owns HUO.out).mono (S' := fun b => (Value.slice oa (L.length - (p + 1)) ocap).ownBlock ≠ some b) (fun b hb e => by have := (HOB.out b e).2; rw [HXX.out] at this; have hb' : XB + 1 ≤ b := hb; omega) (fun _ _ _ _ h => h)
                show Row _ wr 4 (turnU U).length (.slice ua (2 * U.length) ucap) (flatC kC (turnU U))
                rw [len_turnU]
                exact h1, by
                have h1 := (Row.of_owns HO.out).mono (S' := fun b => (Value.slice oa (L.length - (p + 1)) ocap).ownBlock ≠ some b) (fun b hb e => by have := (HOB.out b e).2; rw [HXX.out] at this; have hb' : M2 ≤ b := hb; have := HXM.out; omega) (fun _ _ _ _ h => h)
                show Row _ wr 3 (turnH V).length (.slice va (2 * V.length) vcap) (flatC mC (turnH V))
                rw [len_turnH]
                exact h1, owns_nilA HUO.out, owns_nilA HO.out⟩)
              have HU3 := Lib.hid hu3
              have HLEN := Lib.hid (show L.length - (p + 1) + 1 = L.length - p by omega)
              have hm1 : L.length - (p + 1) + 1 ≤ maxLen := by unfold maxLen; omega
              have hm2 : (L.length - (p + 1) + 1) * 48 ≤ 140737488355328 := by omega
              have hnd := HNR.out
              clear hu1 hu2 hu3
              obtain ⟨n, hn⟩ : ∃ n, L.length - (p + 1) = n := ⟨_, rfl⟩
              have HNN := Lib.hid hn
              rw [hn] at HU1 HU2 HNC HU3 HLEN hm1 hm2 ⊢
              clear hn
              have HUK := Lib.hid (owns_keep (w' := wr.alloc (.cells #[(.slice ua (2 * U.length) ucap), (.slice va (2 * V.length) vcap)] 36)) HU2.out (fun z hz => Below.heap_alloc wr _ _ ((owns_shape HU2.out).choose_spec.choose_spec.2 z hz).2))
              have HOZ := Lib.hid (fun z hz => ((owns_shape HU2.out).choose_spec.choose_spec.2 z hz).1)
              go_wp2_with (at_builtin; refine wpList_append_lies _ rfl _ _ 22 rfl N 36 i0 _ 2 48 Try.underlying22 hi0 hz0 hz1 hz2 rfl (by omega) (.slice oa n ocap) n (flatC pC us) rfl HUK.out ⟨wr.heap.size, 0, none⟩ 1 1 [(.slice ua (2 * U.length) ucap), (.slice va (2 * V.length) vcap)] rfl rfl (World.news_of_block (cs := #[(.slice ua (2 * U.length) ucap), (.slice va (2 * V.length) vcap)]) (t := 36) (fr := (0, 0)) (alloc_last _ _)) (by simp [Value.oneCell']) (by omega) hm1 hm2 (by rw [World.size_alloc]; omega) (wr.heap.size + 1) (by simp) ?_; intro gg cap6 w6 hown6 hgrow6 hat6 _)
              have HB6 := Lib.hid ((HBN.out.alloc hnd (.cells #[(.slice ua (2 * U.length) ucap), (.slice va (2 * V.length) vcap)] 36)).grown hgrow6 (by rw [World.size_alloc]; omega) (fun z hz => HOZ.out z hz))
              have HN6 := Lib.hid (show Nest N w6 (.slice (some ⟨gg, 0, none⟩) (n + 1) cap6) ((L.drop p).reverse.map turnC) from by
                rw [HST.out]
                refine Nest.push (p := ((.slice ua (2 * U.length) ucap), (.slice va (2 * V.length) vcap))) (c := turnC ⟨U, V⟩) (us := us) (by rw [HU1.out, HTL.out, HNN.out]) (by rw [HU1.out]; exact HUK.out) (fun i a b => (HU3.out i a b).mono (fun _ h => h) (fun _ _ _ _ hc => alloc_cell _ hc)) (HNC.out.mono (fun _ h => h) (fun _ _ _ _ hc => alloc_cell _ hc)) (by rw [HTL.out, HNN.out]) hown6 hgrow6 ?_
                rw [World.size_alloc]; exact hat6)
              clear hown6 hgrow6 hat6 x0 x1 hxb
              have HLE := Lib.hid (show n + 1 = L.length - p by have := HNN.out; omega)
              go_wp2_with fail
              go_roundw
              case rel => exact ⟨p, by omega, by go_num, HB6, HN6⟩
              case measure => simp [intOf]
            · obtain ⟨z, rfl⟩ : ∃ z, q = z + 1 := ⟨q - 1, by omega⟩
              rw [show (((z + 1 : Nat) : Int) - 1) = (z : Int) by omega]
              have hzl : z < V.length := by omega
              have HTS := Lib.hid (turnR_step V z hzl)
              obtain ⟨kb, ko, rfl, _, hc⟩ := HV.out.atC mC_len hzl
              have e0 := below_cell HBYW.out (hc 0 (.int .i64 V[z].f) rfl)
              have e1 := below_cell HBYW.out (hc 1 (.int .i64 V[z].t) rfl)
              have e2 := below_cell HBYW.out (hc 2 (.int .i64 V[z].n) rfl)
              rw [Nat.add_zero] at e0
              have E0 := Lib.hid (show wo.cell? ⟨kb, ko + z * 3, none⟩ = some (.int .i64 V[z].f) from hc 0 _ rfl)
              have E1 := Lib.hid (show wo.cell? ⟨kb, ko + z * 3 + 1, none⟩ = some (.int .i64 V[z].t) from hc 1 _ rfl)
              have E2 := Lib.hid (show wo.cell? ⟨kb, ko + z * 3 + 2, none⟩ = some (.int .i64 V[z].n) from hc 2 _ rfl)
              clear hc
              have HXL := Lib.hid (len_turnR V (z + 1))
              generalize V[z] = k at *
              have g0 := below_cell HBYW.out HG.out.2
              have hbg := cell_lt g0
              have hbk := cell_lt e0
              obtain ⟨ha', hcap, rfl, _⟩ := owns_shape HO.out
              have x0 : wr.cell? ⟨XB, 1, none⟩ = some (.slice ha' (2 * (V.length - (z + 1))) hcap) := cell_of_blk HXB.out rfl
              have f0 := thaw HXB.out 1
              have hxb := cell_lt x0
              obtain ⟨n, hn⟩ : ∃ n, 2 * (V.length - (z + 1)) = n := ⟨_, rfl⟩
              have HNN := Lib.hid hn
              rw [hn] at x0 HO HXB
              clear hn
              have hmx1 : n + 2 ≤ maxLen := by unfold maxLen; have := HNN.out; omega
              have hmx2 : (n + 2) * 24 ≤ 140737488355328 := by have := HNN.out; omega
              have HK := Lib.hid (show ∀ W, Below XB wo W → (W.cell? ⟨b, off + p * 2 + 1, none⟩ = some (.slice (some ⟨kb, ko, none⟩) V.length hc') ∧ W.cell? ⟨kb, ko + z * 3, none⟩ = some (.int .i64 k.f) ∧ W.cell? ⟨kb, ko + z * 3 + 1, none⟩ = some (.int .i64 k.t) ∧ W.cell? ⟨kb, ko + z * 3 + 2, none⟩ = some (.int .i64 k.n)) from fun W hB => by
                have hB' : Below wo.heap.size wo W := by rw [HXX.out]; exact hB
                exact ⟨below_cell hB' HG.out.2, below_cell hB' E0.out, below_cell hB' E1.out, below_cell hB' E2.out⟩)
              have HBd := Lib.hid (show Below XB wo wr.drew from HBY.out.trans (below_drewN wr 1 XB))
              have HXS := Lib.hid (show XB + 1 ≤ wr.heap.size from Nat.le_trans HXM.out HSY.out)
              have HBA := Lib.hid (show Below XB wo (wr.alloc (.cells #[.int .i64 k.f, .int .i64 k.t, .int .i64 k.n, .int .i64 k.f, .int .i64 k.t, .int .i64 k.n] 54)).drew from (HBY.out.alloc (show XB ≤ wr.heap.size from Nat.le_of_succ_le HXS.out) (.cells #[.int .i64 k.f, .int .i64 k.t, .int .i64 k.n, .int .i64 k.f, .int .i64 k.t, .int .i64 k.n] 54)).trans (below_drewN _ 1 XB))
              have HOW2 := Lib.hid (owns_keep (w' := (wr.alloc (.cells #[.int .i64 k.f, .int .i64 k.t, .int .i64 k.n, .int .i64 k.f, .int .i64 k.t, .int .i64 k.n] 54)).drew) HO.out (fun y hy => Below.heap_alloc _ _ _ ((owns_shape HO.out).choose_spec.choose_spec.2 y hy).2))
              have HUA := Lib.hid (owns_keep (w' := (wr.alloc (.cells #[.int .i64 k.f, .int .i64 k.t, .int .i64 k.n, .int .i64 k.f, .int .i64 k.t, .int .i64 k.n] 54)).drew) HUO.out (fun y hy => Below.heap_alloc _ _ _ ((owns_shape HUO.out).choose_spec.choose_spec.2 y hy).2))
              have HBS := Lib.hid (show M2 ≤ (wr.alloc (.cells #[.int .i64 k.f, .int .i64 k.t, .int .i64 k.n, .int .i64 k.f, .int .i64 k.t, .int .i64 k.n] 54)).drew.heap.size from by have := HSY.out; show M2 ≤ (wr.alloc _).heap.size; rw [World.size_alloc]; omega)
              have HOM := Lib.hid (fun y hy => ((owns_shape HO.out).choose_spec.choose_spec.2 y hy).1)
              have HNX := Lib.hid (show (Value.slice ha' n hcap).ownBlock ≠ some XB from fun e => by have := HOM.out _ e; have := HXM.out; omega)
              have x0d : wr.drew.cell? ⟨XB, 1, none⟩ = some (.slice ha' n hcap) := x0
              have x0a : (wr.alloc (.cells #[.int .i64 k.f, .int .i64 k.t, .int .i64 k.n, .int .i64 k.f, .int .i64 k.t, .int .i64 k.n] 54)).drew.cell? ⟨XB, 1, none⟩ = some (.slice ha' n hcap) := alloc_cell (.cells #[.int .i64 k.f, .int .i64 k.t, .int .i64 k.n, .int .i64 k.f, .int .i64 k.t, .int .i64 k.n] 54) x0
              go_upto_region 16 with (fail)
              refine wp_region_held_drew (S := fun W => W.cell? ⟨b, off + p * 2 + 1, none⟩ = some (.slice (some ⟨kb, ko, none⟩) V.length hc') ∧ W.cell? ⟨kb, ko + z * 3, none⟩ = some (.int .i64 k.f) ∧ W.cell? ⟨kb, ko + z * 3 + 1, none⟩ = some (.int .i64 k.t) ∧ W.cell? ⟨kb, ko + z * 3 + 2, none⟩ = some (.int .i64 k.n)) (by kernel_rfl) (HK.out _ HBd.out) (fun hHeld => ?_)
              refine wpAnyH_take (i := 0) (v := ?_) (by simp only [List.getElem?_toArray, List.getElem?_cons_succ, List.getElem?_cons_zero]; exact rfl) (by kernel_rfl) (by kernel_rfl) (by kernel_rfl) (by exact fun _ _ _ h => h) (Or.inl ⟨by rfl, ?_⟩) (by assumption) ?_
              rotate_left
              · (intro w hSw; (try dsimp only at hSw); first | (go_simp; done) | (go_simp; with_reducible rfl))
              try simp only [Act.put, List.setIfInBounds_toArray, List.set_cons_zero, List.set_cons_succ]
              refine wpAnyH_take (i := 2) (v := ?_) (by simp only [List.getElem?_toArray, List.getElem?_cons_succ, List.getElem?_cons_zero]; exact rfl) (by kernel_rfl) (by kernel_rfl) (by kernel_rfl) (by exact fun _ _ _ h => h) (Or.inl ⟨by rfl, ?_⟩) (by assumption) ?_
              rotate_left
              · (intro w hSw; (try dsimp only at hSw); first | (go_simp; done) | (go_simp; with_reducible rfl))
              try simp only [Act.put, List.setIfInBounds_toArray, List.set_cons_zero, List.set_cons_succ]
              refine wpAnyH_take (i := 3) (v := ?_) (by simp only [List.getElem?_toArray, List.getElem?_cons_succ, List.getElem?_cons_zero]; exact rfl) (by kernel_rfl) (by kernel_rfl) (by kernel_rfl) (by exact fun _ _ _ h => h) (Or.inl ⟨by rfl, ?_⟩) (by assumption) ?_
              rotate_left
              · (intro w hSw; (try dsimp only at hSw); first | (go_simp; done) | (go_simp; with_reducible rfl))
              try simp only [Act.put, List.setIfInBounds_toArray, List.set_cons_zero, List.set_cons_succ]
              refine wpAnyH_take (i := 4) (v := ?_) (by simp only [List.getElem?_toArray, List.getElem?_cons_succ, List.getElem?_cons_zero]; exact rfl) (by kernel_rfl) (by kernel_rfl) (by kernel_rfl) (by exact fun _ _ _ h => h) (Or.inl ⟨by rfl, ?_⟩) (by assumption) ?_
              rotate_left
              · (intro w hSw; (try dsimp only at hSw); first | (go_simp; done) | (go_simp; with_reducible rfl))
              try simp only [Act.put, List.setIfInBounds_toArray, List.set_cons_zero, List.set_cons_succ]
              refine wpAnyH_take (i := 5) (v := ?_) (by simp only [List.getElem?_toArray, List.getElem?_cons_succ, List.getElem?_cons_zero]; exact rfl) (by kernel_rfl) (by kernel_rfl) (by kernel_rfl) (by exact fun _ _ _ h => h) (Or.inl ⟨by rfl, ?_⟩) (by assumption) ?_
              rotate_left
              · (intro w hSw; (try dsimp only at hSw); first | (go_simp; done) | (go_simp; with_reducible rfl))
              try simp only [Act.put, List.setIfInBounds_toArray, List.set_cons_zero, List.set_cons_succ]
              refine wpAnyH_take (i := 6) (v := ?_) (by simp only [List.getElem?_toArray, List.getElem?_cons_succ, List.getElem?_cons_zero]; exact rfl) (by kernel_rfl) (by kernel_rfl) (by kernel_rfl) (by exact fun _ _ _ h => h) (Or.inl ⟨by rfl, ?_⟩) (by assumption) ?_
              rotate_left
              · (intro w hSw; (try dsimp only at hSw); first | (go_simp; done) | (go_simp; with_reducible rfl))
              try simp only [Act.put, List.setIfInBounds_toArray, List.set_cons_zero, List.set_cons_succ]
              refine wpAnyH_take (i := 7) (v := ?_) (by simp only [List.getElem?_toArray, List.getElem?_cons_succ, List.getElem?_cons_zero]; exact rfl) (by kernel_rfl) (by kernel_rfl) (by kernel_rfl) (by exact fun _ _ _ h => h) (Or.inl ⟨by rfl, ?_⟩) (by assumption) ?_
              rotate_left
              · (intro w hSw; (try dsimp only at hSw); first | (go_simp; done) | (go_simp; with_reducible rfl))
              try simp only [Act.put, List.setIfInBounds_toArray, List.set_cons_zero, List.set_cons_succ]
              refine wpAnyH_take (i := 8) (v := ?_) (by simp only [List.getElem?_toArray, List.getElem?_cons_succ, List.getElem?_cons_zero]; exact rfl) (by kernel_rfl) (by kernel_rfl) (by kernel_rfl) (by exact fun _ _ _ h => h) (Or.inl ⟨by rfl, ?_⟩) (by assumption) ?_
              rotate_left
              · (intro w hSw; (try dsimp only at hSw); first | (go_simp; done) | (go_simp; with_reducible rfl))
              try simp only [Act.put, List.setIfInBounds_toArray, List.set_cons_zero, List.set_cons_succ]
              refine wpAnyH_take (i := 9) (v := ?_) (by simp only [List.getElem?_toArray, List.getElem?_cons_succ, List.getElem?_cons_zero]; exact rfl) (by kernel_rfl) (by kernel_rfl) (by kernel_rfl) (by exact fun _ _ _ h => h) (Or.inl ⟨by rfl, ?_⟩) (by assumption) ?_
              rotate_left
              · (intro w hSw; (try dsimp only at hSw); first | (go_simp; done) | (go_simp; with_reducible rfl))
              try simp only [Act.put, List.setIfInBounds_toArray, List.set_cons_zero, List.set_cons_succ]
              refine wpAnyH_take (i := 10) (v := ?_) (by simp only [List.getElem?_toArray, List.getElem?_cons_succ, List.getElem?_cons_zero]; exact rfl) (by kernel_rfl) (by kernel_rfl) (by kernel_rfl) (by exact fun _ _ _ h => h) (Or.inl ⟨by rfl, ?_⟩) (by assumption) ?_
              rotate_left
              · (intro w hSw; (try dsimp only at hSw); first | (go_simp; done) | (go_simp; with_reducible rfl))
              try simp only [Act.put, List.setIfInBounds_toArray, List.set_cons_zero, List.set_cons_succ]
              refine wpAnyH_take (i := 11) (v := ?_) (by simp only [List.getElem?_toArray, List.getElem?_cons_succ, List.getElem?_cons_zero]; exact rfl) (by kernel_rfl) (by kernel_rfl) (by kernel_rfl) (by exact fun _ _ _ h => h) (Or.inl ⟨by rfl, ?_⟩) (by assumption) ?_
              rotate_left
              · (intro w hSw; (try dsimp only at hSw); first | (go_simp; done) | (go_simp; with_reducible rfl))
              try simp only [Act.put, List.setIfInBounds_toArray, List.set_cons_zero, List.set_cons_succ]
              refine wpAnyH_take (i := 12) (v := ?_) (by simp only [List.getElem?_toArray, List.getElem?_cons_succ, List.getElem?_cons_zero]; exact rfl) (by kernel_rfl) (by kernel_rfl) (by kernel_rfl) (by exact fun _ _ _ h => h) (Or.inl ⟨by rfl, ?_⟩) (by assumption) ?_
              rotate_left
              · (intro w hSw; (try dsimp only at hSw); first | (go_simp; done) | (go_simp; with_reducible rfl))
              try simp only [Act.put, List.setIfInBounds_toArray, List.set_cons_zero, List.set_cons_succ]
              refine wpAnyH_take (i := 13) (v := ?_) (by simp only [List.getElem?_toArray, List.getElem?_cons_succ, List.getElem?_cons_zero]; exact rfl) (by kernel_rfl) (by kernel_rfl) (by kernel_rfl) (by exact fun _ _ _ h => h) (Or.inl ⟨by rfl, ?_⟩) (by assumption) ?_
              rotate_left
              · (intro w hSw; (try dsimp only at hSw); first | (go_simp; done) | (go_simp; with_reducible rfl))
              try simp only [Act.put, List.setIfInBounds_toArray, List.set_cons_zero, List.set_cons_succ]
              refine wpAnyH_take (i := 14) (v := ?_) (by simp only [List.getElem?_toArray, List.getElem?_cons_succ, List.getElem?_cons_zero]; exact rfl) (by kernel_rfl) (by kernel_rfl) (by kernel_rfl) (by exact fun _ _ _ h => h) (Or.inl ⟨by rfl, ?_⟩) (by assumption) ?_
              rotate_left
              · (intro w hSw; (try dsimp only at hSw); first | (go_simp; done) | (go_simp; with_reducible rfl))
              try simp only [Act.put, List.setIfInBounds_toArray, List.set_cons_zero, List.set_cons_succ]
              refine wpAnyH_take (i := 15) (v := ?_) (by simp only [List.getElem?_toArray, List.getElem?_cons_succ, List.getElem?_cons_zero]; exact rfl) (by kernel_rfl) (by kernel_rfl) (by kernel_rfl) (by exact fun _ _ _ h => h) (Or.inl ⟨by rfl, ?_⟩) (by assumption) ?_
              rotate_left
              · (intro w hSw; (try dsimp only at hSw); first | (go_simp; done) | (go_simp; with_reducible rfl))
              try simp only [Act.put, List.setIfInBounds_toArray, List.set_cons_zero, List.set_cons_succ]
              refine wpAnyH_take (i := 16) (v := ?_) (by simp only [List.getElem?_toArray, List.getElem?_cons_succ, List.getElem?_cons_zero]; exact rfl) (by kernel_rfl) (by kernel_rfl) (by kernel_rfl) (by exact fun _ _ _ h => h) (Or.inl ⟨by rfl, ?_⟩) (by assumption) ?_
              rotate_left
              · (intro w hSw; (try dsimp only at hSw); first | (go_simp; done) | (go_simp; with_reducible rfl))
              try simp only [Act.put, List.setIfInBounds_toArray, List.set_cons_zero, List.set_cons_succ]
              refine wpAnyH_take (i := 17) (v := ?_) (by simp only [List.getElem?_toArray, List.getElem?_cons_succ, List.getElem?_cons_zero]; exact rfl) (by kernel_rfl) (by kernel_rfl) (by kernel_rfl) (by exact fun _ _ _ h => h) (Or.inl ⟨by rfl, ?_⟩) (by assumption) ?_
              rotate_left
              · (intro w hSw; (try dsimp only at hSw); first | (go_simp; done) | (go_simp; with_reducible rfl))
              try simp only [Act.put, List.setIfInBounds_toArray, List.set_cons_zero, List.set_cons_succ]
              refine wpAnyH_ready (rs := [1, 18]) (by kernel_rfl) (by simp) ?_
              refine AllReadyH.cons (by simp only [List.getElem?_toArray, List.getElem?_cons_succ, List.getElem?_cons_zero]; exact rfl) (fun K hK => ?_) (AllReadyH.cons (by simp only [List.getElem?_toArray, List.getElem?_cons_succ, List.getElem?_cons_zero]; exact rfl) (fun K hK => ?_) AllReadyH.nil)
              · rw [if_pos (by rfl)]
                go_simp
                refine hK.out _ _ (HK.out _ HBd.out) (fun hHeld => ?_)
                clear hK K
                try simp only [Act.put, List.setIfInBounds_toArray, List.set_cons_zero, List.set_cons_succ]
                refine wpAnyH_ready (rs := [18]) (by kernel_rfl) (by simp) ?_
                refine AllReadyH.cons (by simp only [List.getElem?_toArray, List.getElem?_cons_succ, List.getElem?_cons_zero]; exact rfl) (fun K hK => ?_) AllReadyH.nil
                rw [if_pos (by rfl)]
                go_simp
                refine hK.out _ _ (HK.out _ HBA.out) (fun hHeld => ?_)
                clear hK K
                try simp only [Act.put, List.setIfInBounds_toArray, List.set_cons_zero, List.set_cons_succ]
                refine wpAnyH_ready (rs := [19]) (by kernel_rfl) (by simp) ?_
                refine AllReadyH.cons (by simp only [List.getElem?_toArray, List.getElem?_cons_succ, List.getElem?_cons_zero]; exact rfl) (fun K hK => ?_) AllReadyH.nil
                rw [if_pos (by rfl)]
                refine wp_append_lies _ _ _ _ rfl (M2) 54 i2 _ 3 24 Try.underlying28 hi2 hx0 hx1 hx2 rfl (by omega) (.slice ha' n hcap) n (flatC mC (turnR V (z + 1))) rfl HOW2.out ⟨wr.heap.size, 0, none⟩ 2 2 [.int .i64 k.f, .int .i64 k.t, .int .i64 k.n, .int .i64 k.f, .int .i64 k.t, .int .i64 k.n] rfl rfl (World.news_of_block (cs := #[.int .i64 k.f, .int .i64 k.t, .int .i64 k.n, .int .i64 k.f, .int .i64 k.t, .int .i64 k.n]) (t := 54) (fr := (0, 0)) (alloc_last wr _)) (by simp [Value.oneCell']) (by omega) hmx1 hmx2 HBS.out (wr.heap.size + 1) (by simp) ?_
                intro gg cap6 w6 hown6 hgrow6 hat6 _
                have p5 := grown_cell hgrow6 (alloc_cell _ x0) HNX.out
                have q5 := grown_thaw hgrow6 (alloc_cell _ x0) (alloc_thaw _ x0 f0) HNX.out
                have HB6 := Lib.hid (HBA.out.grown hgrow6 (Nat.le_trans (Nat.le_of_succ_le HXM.out) HBS.out) (fun z hz => Nat.le_trans (Nat.le_of_succ_le HXM.out) (HOM.out z hz)))
                refine hK.out _ _ (HK.out _ HB6.out) (fun hHeld => ?_)
                clear hK K
                try simp only [Act.put, List.setIfInBounds_toArray, List.set_cons_zero, List.set_cons_succ]
                refine wpAnyH_ready (rs := [20]) (by kernel_rfl) (by simp) ?_
                refine AllReadyH.cons (by simp only [List.getElem?_toArray, List.getElem?_cons_succ, List.getElem?_cons_zero]; exact rfl) (fun K hK => ?_) AllReadyH.nil
                rw [if_pos (by rfl)]
                go_simp
                refine hK.out _ _ (HK.out _ HB6.out) (fun hHeld => ?_)
                clear hK K
                try simp only [Act.put, List.setIfInBounds_toArray, List.set_cons_zero, List.set_cons_succ]
                refine wpAnyH_ready (rs := [21]) (by kernel_rfl) (by simp) ?_
                refine AllReadyH.cons (by simp only [List.getElem?_toArray, List.getElem?_cons_succ, List.getElem?_cons_zero]; exact rfl) (fun K hK => ?_) AllReadyH.nil
                rw [if_pos (by rfl)]
                go_simp
                refine hK.out _ _ (HK.out _ (HB6.out.setCell (Nat.le_refl _) _)) (fun hHeld => ?_)
                clear hK K
                try simp only [Act.put, List.setIfInBounds_toArray, List.set_cons_zero, List.set_cons_succ]
                refine wpAnyH_done (by kernel_rfl) ?_ _
                have HX6 := Lib.hid ((hgrow6.block XB (Nat.lt_of_lt_of_le (blk_lt HXB.out) (by simp)) (fun e => HNX.out e.symm)).trans ((Below.heap_alloc wr (.cells #[.int .i64 k.f, .int .i64 k.t, .int .i64 k.n, .int .i64 k.f, .int .i64 k.t, .int .i64 k.n] 54) XB (blk_lt HXB.out)).trans HXB.out))
                have HO6 := Lib.hid hown6
                have HG6 := Lib.hid (show gg ≠ XB from by
                  rcases hat6 with h | h
                  · have := HOM.out _ h; have := HXM.out; omega
                  · have := HXS.out; omega)
                have HU6 := Lib.hid (owns_keep HUA.out (fun y hy => hgrow6.block y ((owns_shape HUA.out).choose_spec.choose_spec.2 y hy).2 (fun e => by have := HOM.out y e.symm; have := HUB.out y hy; omega)))
                have HS6 := Lib.hid (show M2 ≤ w6.heap.size from Nat.le_trans HBS.out hgrow6.size)
                clear hown6 hgrow6 hat6 g0 hbg x0 x0d x0a f0 hxb p5 q5 e0 e1 e2 hbk
                go_wp2_with fail
                go_roundw
                case rel =>
                  refine ⟨z, by omega, by go_num, Lib.hid (HB6.out.setCell (Nat.le_refl _) _), Lib.hid (by have := HS6.out; simpa using this), Lib.hid (owns_keep HU6.out (fun y hy => Below.heap_setCell _ _ _ _ (show y ≠ XB by have := HUB.out y hy; omega))), Lib.hid ⟨.slice (some ⟨gg, 0, none⟩) (n + 2) cap6, setCell_heap HX6.out, ?_⟩⟩
                  have e : 2 * (V.length - z) = n + 2 := by have := HNN.out; omega
                  rw [e, HTS.out, flatC_append]
                  exact owns_keep HO6.out (fun y hy => Below.heap_setCell _ _ _ _ (ne_of_own hy HG6.out))
                case measure => simp [intOf]
              · rw [if_pos (by rfl)]
                go_simp
                refine hK.out _ _ (HK.out _ HBA.out) (fun hHeld => ?_)
                clear hK K
                try simp only [Act.put, List.setIfInBounds_toArray, List.set_cons_zero, List.set_cons_succ]
                refine wpAnyH_ready (rs := [1]) (by kernel_rfl) (by simp) ?_
                refine AllReadyH.cons (by simp only [List.getElem?_toArray, List.getElem?_cons_succ, List.getElem?_cons_zero]; exact rfl) (fun K hK => ?_) AllReadyH.nil
                rw [if_pos (by rfl)]
                go_simp
                refine hK.out _ _ (HK.out _ HBA.out) (fun hHeld => ?_)
                clear hK K
                try simp only [Act.put, List.setIfInBounds_toArray, List.set_cons_zero, List.set_cons_succ]
                refine wpAnyH_ready (rs := [19]) (by kernel_rfl) (by simp) ?_
                refine AllReadyH.cons (by simp only [List.getElem?_toArray, List.getElem?_cons_succ, List.getElem?_cons_zero]; exact rfl) (fun K hK => ?_) AllReadyH.nil
                rw [if_pos (by rfl)]
                refine wp_append_lies _ _ _ _ rfl (M2) 54 i2 _ 3 24 Try.underlying28 hi2 hx0 hx1 hx2 rfl (by omega) (.slice ha' n hcap) n (flatC mC (turnR V (z + 1))) rfl HOW2.out ⟨wr.heap.size, 0, none⟩ 2 2 [.int .i64 k.f, .int .i64 k.t, .int .i64 k.n, .int .i64 k.f, .int .i64 k.t, .int .i64 k.n] rfl rfl (World.news_of_block (cs := #[.int .i64 k.f, .int .i64 k.t, .int .i64 k.n, .int .i64 k.f, .int .i64 k.t, .int .i64 k.n]) (t := 54) (fr := (0, 0)) (alloc_last wr _)) (by simp [Value.oneCell']) (by omega) hmx1 hmx2 HBS.out (wr.heap.size + 1) (by simp) ?_
                intro gg cap6 w6 hown6 hgrow6 hat6 _
                have p5 := grown_cell hgrow6 (alloc_cell _ x0) HNX.out
                have q5 := grown_thaw hgrow6 (alloc_cell _ x0) (alloc_thaw _ x0 f0) HNX.out
                have HB6 := Lib.hid (HBA.out.grown hgrow6 (Nat.le_trans (Nat.le_of_succ_le HXM.out) HBS.out) (fun z hz => Nat.le_trans (Nat.le_of_succ_le HXM.out) (HOM.out z hz)))
                refine hK.out _ _ (HK.out _ HB6.out) (fun hHeld => ?_)
                clear hK K
                try simp only [Act.put, List.setIfInBounds_toArray, List.set_cons_zero, List.set_cons_succ]
                refine wpAnyH_ready (rs := [20]) (by kernel_rfl) (by simp) ?_
                refine AllReadyH.cons (by simp only [List.getElem?_toArray, List.getElem?_cons_succ, List.getElem?_cons_zero]; exact rfl) (fun K hK => ?_) AllReadyH.nil
                rw [if_pos (by rfl)]
                go_simp
                refine hK.out _ _ (HK.out _ HB6.out) (fun hHeld => ?_)
                clear hK K
                try simp only [Act.put, List.setIfInBounds_toArray, List.set_cons_zero, List.set_cons_succ]
                refine wpAnyH_ready (rs := [21]) (by kernel_rfl) (by simp) ?_
                refine AllReadyH.cons (by simp only [List.getElem?_toArray, List.getElem?_cons_succ, List.getElem?_cons_zero]; exact rfl) (fun K hK => ?_) AllReadyH.nil
                rw [if_pos (by rfl)]
                go_simp
                refine hK.out _ _ (HK.out _ (HB6.out.setCell (Nat.le_refl _) _)) (fun hHeld => ?_)
                clear hK K
                try simp only [Act.put, List.setIfInBounds_toArray, List.set_cons_zero, List.set_cons_succ]
                refine wpAnyH_done (by kernel_rfl) ?_ _
                have HX6 := Lib.hid ((hgrow6.block XB (Nat.lt_of_lt_of_le (blk_lt HXB.out) (by simp)) (fun e => HNX.out e.symm)).trans ((Below.heap_alloc wr (.cells #[.int .i64 k.f, .int .i64 k.t, .int .i64 k.n, .int .i64 k.f, .int .i64 k.t, .int .i64 k.n] 54) XB (blk_lt HXB.out)).trans HXB.out))
                have HO6 := Lib.hid hown6
                have HG6 := Lib.hid (show gg ≠ XB from by
                  rcases hat6 with h | h
                  · have := HOM.out _ h; have := HXM.out; omega
                  · have := HXS.out; omega)
                have HU6 := Lib.hid (owns_keep HUA.out (fun y hy => hgrow6.block y ((owns_shape HUA.out).choose_spec.choose_spec.2 y hy).2 (fun e => by have := HOM.out y e.symm; have := HUB.out y hy; omega)))
                have HS6 := Lib.hid (show M2 ≤ w6.heap.size from Nat.le_trans HBS.out hgrow6.size)
                clear hown6 hgrow6 hat6 g0 hbg x0 x0d x0a f0 hxb p5 q5 e0 e1 e2 hbk
                go_wp2_with fail
                go_roundw
                case rel =>
                  refine ⟨z, by omega, by go_num, Lib.hid (HB6.out.setCell (Nat.le_refl _) _), Lib.hid (by have := HS6.out; simpa using this), Lib.hid (owns_keep HU6.out (fun y hy => Below.heap_setCell _ _ _ _ (show y ≠ XB by have := HUB.out y hy; omega))), Lib.hid ⟨.slice (some ⟨gg, 0, none⟩) (n + 2) cap6, setCell_heap HX6.out, ?_⟩⟩
                  have e : 2 * (V.length - z) = n + 2 := by have := HNN.out; omega
                  rw [e, HTS.out, flatC_append]
                  exact owns_keep HO6.out (fun y hy => Below.heap_setCell _ _ _ _ (ne_of_own hy HG6.out))
                case measure => simp [intOf]
        · obtain ⟨z, rfl⟩ : ∃ z, q = z + 1 := ⟨q - 1, by omega⟩
          rw [show (((z + 1 : Nat) : Int) - 1) = (z : Int) by omega]
          have hzl : z < U.length := by omega
          have HTS := Lib.hid (turnQ_step U z hzl)
          obtain ⟨kb, ko, rfl, _, hc⟩ := HU.out.atC kC_len hzl
          have e0 := below_cell HBYW.out (hc 0 (.int .u8 U[z].kind) rfl)
          have e1 := below_cell HBYW.out (hc 1 (.int .i64 U[z].a) rfl)
          have e2 := below_cell HBYW.out (hc 2 (.int .i64 U[z].b) rfl)
          have e3 := below_cell HBYW.out (hc 3 (.int .i64 U[z].n) rfl)
          rw [Nat.add_zero] at e0
          have E0 := Lib.hid (show wo.cell? ⟨kb, ko + z * 4, none⟩ = some (.int .u8 U[z].kind) from hc 0 _ rfl)
          have E1 := Lib.hid (show wo.cell? ⟨kb, ko + z * 4 + 1, none⟩ = some (.int .i64 U[z].a) from hc 1 _ rfl)
          have E2 := Lib.hid (show wo.cell? ⟨kb, ko + z * 4 + 2, none⟩ = some (.int .i64 U[z].b) from hc 2 _ rfl)
          have E3 := Lib.hid (show wo.cell? ⟨kb, ko + z * 4 + 3, none⟩ = some (.int .i64 U[z].n) from hc 3 _ rfl)
          obtain ⟨kb', ko', hab, _, hc⟩ := HU.out.atC kC_len (show 0 < U.length by omega)
          cases hab
          have y0 := below_cell HBYW.out (hc 0 (.int .u8 U[0].kind) rfl)
          have y1 := below_cell HBYW.out (hc 1 (.int .i64 U[0].a) rfl)
          have y2 := below_cell HBYW.out (hc 2 (.int .i64 U[0].b) rfl)
          have y3 := below_cell HBYW.out (hc 3 (.int .i64 U[0].n) rfl)
          simp only [Nat.zero_mul, Nat.add_zero] at y0 y1 y2 y3
          have E4 := Lib.hid (show wo.cell? ⟨kb, ko, none⟩ = some (.int .u8 U[0].kind) by have := hc 0 (.int .u8 U[0].kind) rfl; simpa using this)
          have E5 := Lib.hid (show wo.cell? ⟨kb, ko + 1, none⟩ = some (.int .i64 U[0].a) by have := hc 1 (.int .i64 U[0].a) rfl; simpa using this)
          have E6 := Lib.hid (show wo.cell? ⟨kb, ko + 2, none⟩ = some (.int .i64 U[0].b) by have := hc 2 (.int .i64 U[0].b) rfl; simpa using this)
          have E7 := Lib.hid (show wo.cell? ⟨kb, ko + 3, none⟩ = some (.int .i64 U[0].n) by have := hc 3 (.int .i64 U[0].n) rfl; simpa using this)
          clear hc
          have HXL := Lib.hid (len_turnQ U (z + 1))
          generalize U[z] = k at *
          generalize U[0] = k0 at *
          have g0 := below_cell HBYW.out HG.out.1
          have hbg := cell_lt g0
          have hbk := cell_lt e0
          obtain ⟨ua, ucap, rfl, _⟩ := owns_shape HO.out
          have hlt0 : 0 < U.length := by omega
          have x0 : wr.cell? ⟨XB, 0, none⟩ = some (.slice ua (2 * (U.length - (z + 1))) ucap) := cell_of_blk HXB.out rfl
          have f0 := thaw HXB.out 0
          have hxb := cell_lt x0
          obtain ⟨n, hn⟩ : ∃ n, 2 * (U.length - (z + 1)) = n := ⟨_, rfl⟩
          have HNN := Lib.hid hn
          rw [hn] at x0 HO HXB
          clear hn
          have hmx1 : n + 2 ≤ maxLen := by unfold maxLen; have := HNN.out; omega
          have hmx2 : (n + 2) * 32 ≤ 140737488355328 := by have := HNN.out; omega
          have HK := Lib.hid (show ∀ W, Below XB wo W → (W.cell? ⟨b, off + p * 2, none⟩ = some (.slice (some ⟨kb, ko, none⟩) U.length uc) ∧ W.cell? ⟨kb, ko + z * 4, none⟩ = some (.int .u8 k.kind) ∧ W.cell? ⟨kb, ko + z * 4 + 1, none⟩ = some (.int .i64 k.a) ∧ W.cell? ⟨kb, ko + z * 4 + 2, none⟩ = some (.int .i64 k.b) ∧ W.cell? ⟨kb, ko + z * 4 + 3, none⟩ = some (.int .i64 k.n) ∧ W.cell? ⟨kb, ko, none⟩ = some (.int .u8 k0.kind) ∧ W.cell? ⟨kb, ko + 1, none⟩ = some (.int .i64 k0.a) ∧ W.cell? ⟨kb, ko + 2, none⟩ = some (.int .i64 k0.b) ∧ W.cell? ⟨kb, ko + 3, none⟩ = some (.int .i64 k0.n)) from fun W hB => by
            have hB' : Below wo.heap.size wo W := by rw [HXX.out]; exact hB
            exact ⟨below_cell hB' HG.out.1, below_cell hB' E0.out, below_cell hB' E1.out, below_cell hB' E2.out, below_cell hB' E3.out, below_cell hB' E4.out, below_cell hB' E5.out, below_cell hB' E6.out, below_cell hB' E7.out⟩)
          have HBd := Lib.hid (show Below XB wo wr.drew from HBY.out.trans (below_drewN wr 1 XB))
          have HBA := Lib.hid (show Below XB wo (wr.alloc (.cells #[.int .u8 k.kind, .int .i64 k.a, .int .i64 k.b, .int .i64 k.n, .int .u8 k0.kind, .int .i64 k0.a, .int .i64 k0.b, .int .i64 k0.n] 48)).drew from (HBY.out.alloc (show XB ≤ wr.heap.size from Nat.le_of_succ_le HSY.out) (.cells #[.int .u8 k.kind, .int .i64 k.a, .int .i64 k.b, .int .i64 k.n, .int .u8 k0.kind, .int .i64 k0.a, .int .i64 k0.b, .int .i64 k0.n] 48)).trans (below_drewN _ 1 XB))
          have HOW2 := Lib.hid (owns_keep (w' := (wr.alloc (.cells #[.int .u8 k.kind, .int .i64 k.a, .int .i64 k.b, .int .i64 k.n, .int .u8 k0.kind, .int .i64 k0.a, .int .i64 k0.b, .int .i64 k0.n] 48)).drew) HO.out (fun y hy => Below.heap_alloc _ _ _ ((owns_shape HO.out).choose_spec.choose_spec.2 y hy).2))
          have HBS := Lib.hid (show XB + 1 ≤ (wr.alloc (.cells #[.int .u8 k.kind, .int .i64 k.a, .int .i64 k.b, .int .i64 k.n, .int .u8 k0.kind, .int .i64 k0.a, .int .i64 k0.b, .int .i64 k0.n] 48)).drew.heap.size from by have := HSY.out; show XB + 1 ≤ (wr.alloc _).heap.size; rw [World.size_alloc]; omega)
          have HNX := Lib.hid (show (Value.slice ua n ucap).ownBlock ≠ some XB from fun e => by have := ((owns_shape HO.out).choose_spec.choose_spec.2 _ e).1; omega)
          have HOM := Lib.hid (fun y hy => ((owns_shape HO.out).choose_spec.choose_spec.2 y hy).1)
          have x0d : wr.drew.cell? ⟨XB, 0, none⟩ = some (.slice ua n ucap) := x0
          have x0a : (wr.alloc (.cells #[.int .u8 k.kind, .int .i64 k.a, .int .i64 k.b, .int .i64 k.n, .int .u8 k0.kind, .int .i64 k0.a, .int .i64 k0.b, .int .i64 k0.n] 48)).drew.cell? ⟨XB, 0, none⟩ = some (.slice ua n ucap) := alloc_cell (.cells #[.int .u8 k.kind, .int .i64 k.a, .int .i64 k.b, .int .i64 k.n, .int .u8 k0.kind, .int .i64 k0.a, .int .i64 k0.b, .int .i64 k0.n] 48) x0
          go_upto_region 12 with (fail)
          refine wp_region_held_drew (S := fun W => W.cell? ⟨b, off + p * 2, none⟩ = some (.slice (some ⟨kb, ko, none⟩) U.length uc) ∧ W.cell? ⟨kb, ko + z * 4, none⟩ = some (.int .u8 k.kind) ∧ W.cell? ⟨kb, ko + z * 4 + 1, none⟩ = some (.int .i64 k.a) ∧ W.cell? ⟨kb, ko + z * 4 + 2, none⟩ = some (.int .i64 k.b) ∧ W.cell? ⟨kb, ko + z * 4 + 3, none⟩ = some (.int .i64 k.n) ∧ W.cell? ⟨kb, ko, none⟩ = some (.int .u8 k0.kind) ∧ W.cell? ⟨kb, ko + 1, none⟩ = some (.int .i64 k0.a) ∧ W.cell? ⟨kb, ko + 2, none⟩ = some (.int .i64 k0.b) ∧ W.cell? ⟨kb, ko + 3, none⟩ = some (.int .i64 k0.n)) (by kernel_rfl) (HK.out _ HBd.out) (fun hHeld => ?_)
          refine wpAnyH_take (i := 0) (v := ?_) (by simp only [List.getElem?_toArray, List.getElem?_cons_succ, List.getElem?_cons_zero]; exact rfl) (by kernel_rfl) (by kernel_rfl) (by kernel_rfl) (by exact fun _ _ _ h => h) (Or.inl ⟨by rfl, ?_⟩) (by assumption) ?_
          rotate_left
          · (intro w hSw; (try dsimp only at hSw); first | (go_simp; done) | (go_simp; with_reducible rfl))
          try simp only [Act.put, List.setIfInBounds_toArray, List.set_cons_zero, List.set_cons_succ]
          refine wpAnyH_take (i := 2) (v := ?_) (by simp only [List.getElem?_toArray, List.getElem?_cons_succ, List.getElem?_cons_zero]; exact rfl) (by kernel_rfl) (by kernel_rfl) (by kernel_rfl) (by exact fun _ _ _ h => h) (Or.inl ⟨by rfl, ?_⟩) (by assumption) ?_
          rotate_left
          · (intro w hSw; (try dsimp only at hSw); first | (go_simp; done) | (go_simp; with_reducible rfl))
          try simp only [Act.put, List.setIfInBounds_toArray, List.set_cons_zero, List.set_cons_succ]
          refine wpAnyH_take (i := 3) (v := ?_) (by simp only [List.getElem?_toArray, List.getElem?_cons_succ, List.getElem?_cons_zero]; exact rfl) (by kernel_rfl) (by kernel_rfl) (by kernel_rfl) (by exact fun _ _ _ h => h) (Or.inl ⟨by rfl, ?_⟩) (by assumption) ?_
          rotate_left
          · (intro w hSw; (try dsimp only at hSw); first | (go_simp; done) | (go_simp; with_reducible rfl))
          try simp only [Act.put, List.setIfInBounds_toArray, List.set_cons_zero, List.set_cons_succ]
          refine wpAnyH_take (i := 4) (v := ?_) (by simp only [List.getElem?_toArray, List.getElem?_cons_succ, List.getElem?_cons_zero]; exact rfl) (by kernel_rfl) (by kernel_rfl) (by kernel_rfl) (by exact fun _ _ _ h => h) (Or.inl ⟨by rfl, ?_⟩) (by assumption) ?_
          rotate_left
          · (intro w hSw; (try dsimp only at hSw); first | (go_simp; done) | (go_simp; with_reducible rfl))
          try simp only [Act.put, List.setIfInBounds_toArray, List.set_cons_zero, List.set_cons_succ]
          refine wpAnyH_take (i := 5) (v := ?_) (by simp only [List.getElem?_toArray, List.getElem?_cons_succ, List.getElem?_cons_zero]; exact rfl) (by kernel_rfl) (by kernel_rfl) (by kernel_rfl) (by exact fun _ _ _ h => h) (Or.inl ⟨by rfl, ?_⟩) (by assumption) ?_
          rotate_left
          · (intro w hSw; (try dsimp only at hSw); first | (go_simp; done) | (go_simp; with_reducible rfl))
          try simp only [Act.put, List.setIfInBounds_toArray, List.set_cons_zero, List.set_cons_succ]
          refine wpAnyH_take (i := 6) (v := ?_) (by simp only [List.getElem?_toArray, List.getElem?_cons_succ, List.getElem?_cons_zero]; exact rfl) (by kernel_rfl) (by kernel_rfl) (by kernel_rfl) (by exact fun _ _ _ h => h) (Or.inl ⟨by rfl, ?_⟩) (by assumption) ?_
          rotate_left
          · (intro w hSw; (try dsimp only at hSw); first | (go_simp; done) | (go_simp; with_reducible rfl))
          try simp only [Act.put, List.setIfInBounds_toArray, List.set_cons_zero, List.set_cons_succ]
          refine wpAnyH_take (i := 7) (v := ?_) (by simp only [List.getElem?_toArray, List.getElem?_cons_succ, List.getElem?_cons_zero]; exact rfl) (by kernel_rfl) (by kernel_rfl) (by kernel_rfl) (by exact fun _ _ _ h => h) (Or.inl ⟨by rfl, ?_⟩) (by assumption) ?_
          rotate_left
          · (intro w hSw; (try dsimp only at hSw); first | (go_simp; done) | (go_simp; with_reducible rfl))
          try simp only [Act.put, List.setIfInBounds_toArray, List.set_cons_zero, List.set_cons_succ]
          refine wpAnyH_take (i := 8) (v := ?_) (by simp only [List.getElem?_toArray, List.getElem?_cons_succ, List.getElem?_cons_zero]; exact rfl) (by kernel_rfl) (by kernel_rfl) (by kernel_rfl) (by exact fun _ _ _ h => h) (Or.inl ⟨by rfl, ?_⟩) (by assumption) ?_
          rotate_left
          · (intro w hSw; (try dsimp only at hSw); first | (go_simp; done) | (go_simp; with_reducible rfl))
          try simp only [Act.put, List.setIfInBounds_toArray, List.set_cons_zero, List.set_cons_succ]
          refine wpAnyH_take (i := 9) (v := ?_) (by simp only [List.getElem?_toArray, List.getElem?_cons_succ, List.getElem?_cons_zero]; exact rfl) (by kernel_rfl) (by kernel_rfl) (by kernel_rfl) (by exact fun _ _ _ h => h) (Or.inl ⟨by rfl, ?_⟩) (by assumption) ?_
          rotate_left
          · (intro w hSw; (try dsimp only at hSw); first | (go_simp; done) | (go_simp; with_reducible rfl))
          try simp only [Act.put, List.setIfInBounds_toArray, List.set_cons_zero, List.set_cons_succ]
          refine wpAnyH_take (i := 10) (v := ?_) (by simp only [List.getElem?_toArray, List.getElem?_cons_succ, List.getElem?_cons_zero]; exact rfl) (by kernel_rfl) (by kernel_rfl) (by kernel_rfl) (by exact fun _ _ _ h => h) (Or.inl ⟨by rfl, ?_⟩) (by assumption) ?_
          rotate_left
          · (intro w hSw; (try dsimp only at hSw); first | (go_simp; done) | (go_simp; with_reducible rfl))
          try simp only [Act.put, List.setIfInBounds_toArray, List.set_cons_zero, List.set_cons_succ]
          refine wpAnyH_take (i := 11) (v := ?_) (by simp only [List.getElem?_toArray, List.getElem?_cons_succ, List.getElem?_cons_zero]; exact rfl) (by kernel_rfl) (by kernel_rfl) (by kernel_rfl) (by exact fun _ _ _ h => h) (Or.inl ⟨by rfl, ?_⟩) (by assumption) ?_
          rotate_left
          · (intro w hSw; (try dsimp only at hSw); first | (go_simp; done) | (go_simp; with_reducible rfl))
          try simp only [Act.put, List.setIfInBounds_toArray, List.set_cons_zero, List.set_cons_succ]
          refine wpAnyH_take (i := 12) (v := ?_) (by simp only [List.getElem?_toArray, List.getElem?_cons_succ, List.getElem?_cons_zero]; exact rfl) (by kernel_rfl) (by kernel_rfl) (by kernel_rfl) (by exact fun _ _ _ h => h) (Or.inl ⟨by rfl, ?_⟩) (by assumption) ?_
          rotate_left
          · (intro w hSw; (try dsimp only at hSw); first | (go_simp; done) | (go_simp; with_reducible rfl))
          try simp only [Act.put, List.setIfInBounds_toArray, List.set_cons_zero, List.set_cons_succ]
          refine wpAnyH_take (i := 13) (v := ?_) (by simp only [List.getElem?_toArray, List.getElem?_cons_succ, List.getElem?_cons_zero]; exact rfl) (by kernel_rfl) (by kernel_rfl) (by kernel_rfl) (by exact fun _ _ _ h => h) (Or.inl ⟨by rfl, ?_⟩) (by assumption) ?_
          rotate_left
          · (intro w hSw; (try dsimp only at hSw); first | (go_simp; done) | (go_simp; with_reducible rfl))
          try simp only [Act.put, List.setIfInBounds_toArray, List.set_cons_zero, List.set_cons_succ]
          refine wpAnyH_take (i := 14) (v := ?_) (by simp only [List.getElem?_toArray, List.getElem?_cons_succ, List.getElem?_cons_zero]; exact rfl) (by kernel_rfl) (by kernel_rfl) (by kernel_rfl) (by exact fun _ _ _ h => h) (Or.inl ⟨by rfl, ?_⟩) (by assumption) ?_
          rotate_left
          · (intro w hSw; (try dsimp only at hSw); first | (go_simp; done) | (go_simp; with_reducible rfl))
          try simp only [Act.put, List.setIfInBounds_toArray, List.set_cons_zero, List.set_cons_succ]
          refine wpAnyH_take (i := 15) (v := ?_) (by simp only [List.getElem?_toArray, List.getElem?_cons_succ, List.getElem?_cons_zero]; exact rfl) (by kernel_rfl) (by kernel_rfl) (by kernel_rfl) (by exact fun _ _ _ h => h) (Or.inl ⟨by rfl, ?_⟩) (by assumption) ?_
          rotate_left
          · (intro w hSw; (try dsimp only at hSw); first | (go_simp; done) | (go_simp; with_reducible rfl))
          try simp only [Act.put, List.setIfInBounds_toArray, List.set_cons_zero, List.set_cons_succ]
          refine wpAnyH_take (i := 16) (v := ?_) (by simp only [List.getElem?_toArray, List.getElem?_cons_succ, List.getElem?_cons_zero]; exact rfl) (by kernel_rfl) (by kernel_rfl) (by kernel_rfl) (by exact fun _ _ _ h => h) (Or.inl ⟨by rfl, ?_⟩) (by assumption) ?_
          rotate_left
          · (intro w hSw; (try dsimp only at hSw); first | (go_simp; done) | (go_simp; with_reducible rfl))
          try simp only [Act.put, List.setIfInBounds_toArray, List.set_cons_zero, List.set_cons_succ]
          refine wpAnyH_ready (rs := [1, 17]) (by kernel_rfl) (by simp) ?_
          refine AllReadyH.cons (by simp only [List.getElem?_toArray, List.getElem?_cons_succ, List.getElem?_cons_zero]; exact rfl) (fun K hK => ?_) (AllReadyH.cons (by simp only [List.getElem?_toArray, List.getElem?_cons_succ, List.getElem?_cons_zero]; exact rfl) (fun K hK => ?_) AllReadyH.nil)
          · rw [if_pos (by rfl)]
            go_simp
            refine hK.out _ _ (HK.out _ HBd.out) (fun hHeld => ?_)
            clear hK K
            try simp only [Act.put, List.setIfInBounds_toArray, List.set_cons_zero, List.set_cons_succ]
            refine wpAnyH_ready (rs := [17]) (by kernel_rfl) (by simp) ?_
            refine AllReadyH.cons (by simp only [List.getElem?_toArray, List.getElem?_cons_succ, List.getElem?_cons_zero]; exact rfl) (fun K hK => ?_) AllReadyH.nil
            rw [if_pos (by rfl)]
            go_simp
            refine hK.out _ _ (HK.out _ HBA.out) (fun hHeld => ?_)
            clear hK K
            try simp only [Act.put, List.setIfInBounds_toArray, List.set_cons_zero, List.set_cons_succ]
            refine wpAnyH_ready (rs := [18]) (by kernel_rfl) (by simp) ?_
            refine AllReadyH.cons (by simp only [List.getElem?_toArray, List.getElem?_cons_succ, List.getElem?_cons_zero]; exact rfl) (fun K hK => ?_) AllReadyH.nil
            rw [if_pos (by rfl)]
            refine wp_append_lies _ _ _ _ rfl (XB + 1) 48 i1 _ 4 32 Try.underlying27 hi1 hy0 hy1 hy2 rfl (by omega) (.slice ua n ucap) n (flatC kC (turnQ U (z + 1))) rfl HOW2.out ⟨wr.heap.size, 0, none⟩ 2 2 [.int .u8 k.kind, .int .i64 k.a, .int .i64 k.b, .int .i64 k.n, .int .u8 k0.kind, .int .i64 k0.a, .int .i64 k0.b, .int .i64 k0.n] rfl rfl (World.news_of_block (cs := #[.int .u8 k.kind, .int .i64 k.a, .int .i64 k.b, .int .i64 k.n, .int .u8 k0.kind, .int .i64 k0.a, .int .i64 k0.b, .int .i64 k0.n]) (t := 48) (fr := (0, 0)) (alloc_last wr _)) (by simp [Value.oneCell']) (by omega) hmx1 hmx2 HBS.out (wr.heap.size + 1) (by simp) ?_
            intro gg cap6 w6 hown6 hgrow6 hat6 _
            have p5 := grown_cell hgrow6 (alloc_cell _ x0) HNX.out
            have q5 := grown_thaw hgrow6 (alloc_cell _ x0) (alloc_thaw _ x0 f0) HNX.out
            have HB6 := Lib.hid (HBA.out.grown hgrow6 (Nat.le_of_succ_le HBS.out) (fun z hz => Nat.le_of_succ_le (HOM.out z hz)))
            refine hK.out _ _ (HK.out _ HB6.out) (fun hHeld => ?_)
            clear hK K
            try simp only [Act.put, List.setIfInBounds_toArray, List.set_cons_zero, List.set_cons_succ]
            refine wpAnyH_ready (rs := [19]) (by kernel_rfl) (by simp) ?_
            refine AllReadyH.cons (by simp only [List.getElem?_toArray, List.getElem?_cons_succ, List.getElem?_cons_zero]; exact rfl) (fun K hK => ?_) AllReadyH.nil
            rw [if_pos (by rfl)]
            go_simp
            refine hK.out _ _ (HK.out _ HB6.out) (fun hHeld => ?_)
            clear hK K
            try simp only [Act.put, List.setIfInBounds_toArray, List.set_cons_zero, List.set_cons_succ]
            refine wpAnyH_ready (rs := [20]) (by kernel_rfl) (by simp) ?_
            refine AllReadyH.cons (by simp only [List.getElem?_toArray, List.getElem?_cons_succ, List.getElem?_cons_zero]; exact rfl) (fun K hK => ?_) AllReadyH.nil
            rw [if_pos (by rfl)]
            go_simp
            refine hK.out _ _ (HK.out _ (HB6.out.setCell (Nat.le_refl _) _)) (fun hHeld => ?_)
            clear hK K
            try simp only [Act.put, List.setIfInBounds_toArray, List.set_cons_zero, List.set_cons_succ]
            refine wpAnyH_done (by kernel_rfl) ?_ _
            have HX6 := Lib.hid ((hgrow6.block XB (Nat.lt_of_lt_of_le (blk_lt HXB.out) (by simp)) (fun e => HNX.out e.symm)).trans ((Below.heap_alloc wr (.cells #[.int .u8 k.kind, .int .i64 k.a, .int .i64 k.b, .int .i64 k.n, .int .u8 k0.kind, .int .i64 k0.a, .int .i64 k0.b, .int .i64 k0.n] 48) XB (blk_lt HXB.out)).trans HXB.out))
            have HO6 := Lib.hid hown6
            have HG6 := Lib.hid (show gg ≠ XB from by
              rcases hat6 with h | h
              · have := HOM.out _ h; omega
              · have := HSY.out; omega)
            have HS6 := Lib.hid (show XB + 1 ≤ w6.heap.size from Nat.le_trans HBS.out hgrow6.size)
            clear hown6 hgrow6 hat6 g0 hbg x0 x0d x0a f0 hxb p5 q5 e0 e1 e2 e3 y0 y1 y2 y3 hbk
            go_wp2_with fail
            go_roundw
            case rel =>
              refine ⟨z, by omega, by go_num, Lib.hid (HB6.out.setCell (Nat.le_refl _) _), Lib.hid (by have := HS6.out; simpa using this), Lib.hid ⟨.slice (some ⟨gg, 0, none⟩) (n + 2) cap6, setCell_heap HX6.out, ?_⟩⟩
              have e : 2 * (U.length - z) = n + 2 := by have := HNN.out; omega
              rw [e, HTS.out, flatC_append]
              exact owns_keep HO6.out (fun y hy => Below.heap_setCell _ _ _ _ (ne_of_own hy HG6.out))
            case measure => simp [intOf]
          · rw [if_pos (by rfl)]
            go_simp
            refine hK.out _ _ (HK.out _ HBA.out) (fun hHeld => ?_)
            clear hK K
            try simp only [Act.put, List.setIfInBounds_toArray, List.set_cons_zero, List.set_cons_succ]
            refine wpAnyH_ready (rs := [1]) (by kernel_rfl) (by simp) ?_
            refine AllReadyH.cons (by simp only [List.getElem?_toArray, List.getElem?_cons_succ, List.getElem?_cons_zero]; exact rfl) (fun K hK => ?_) AllReadyH.nil
            rw [if_pos (by rfl)]
            go_simp
            refine hK.out _ _ (HK.out _ HBA.out) (fun hHeld => ?_)
            clear hK K
            try simp only [Act.put, List.setIfInBounds_toArray, List.set_cons_zero, List.set_cons_succ]
            refine wpAnyH_ready (rs := [18]) (by kernel_rfl) (by simp) ?_
            refine AllReadyH.cons (by simp only [List.getElem?_toArray, List.getElem?_cons_succ, List.getElem?_cons_zero]; exact rfl) (fun K hK => ?_) AllReadyH.nil
            rw [if_pos (by rfl)]
            refine wp_append_lies _ _ _ _ rfl (XB + 1) 48 i1 _ 4 32 Try.underlying27 hi1 hy0 hy1 hy2 rfl (by omega) (.slice ua n ucap) n (flatC kC (turnQ U (z + 1))) rfl HOW2.out ⟨wr.heap.size, 0, none⟩ 2 2 [.int .u8 k.kind, .int .i64 k.a, .int .i64 k.b, .int .i64 k.n, .int .u8 k0.kind, .int .i64 k0.a, .int .i64 k0.b, .int .i64 k0.n] rfl rfl (World.news_of_block (cs := #[.int .u8 k.kind, .int .i64 k.a, .int .i64 k.b, .int .i64 k.n, .int .u8 k0.kind, .int .i64 k0.a, .int .i64 k0.b, .int .i64 k0.n]) (t := 48) (fr := (0, 0)) (alloc_last wr _)) (by simp [Value.oneCell']) (by omega) hmx1 hmx2 HBS.out (wr.heap.size + 1) (by simp) ?_
            intro gg cap6 w6 hown6 hgrow6 hat6 _
            have p5 := grown_cell hgrow6 (alloc_cell _ x0) HNX.out
            have q5 := grown_thaw hgrow6 (alloc_cell _ x0) (alloc_thaw _ x0 f0) HNX.out
            have HB6 := Lib.hid (HBA.out.grown hgrow6 (Nat.le_of_succ_le HBS.out) (fun z hz => Nat.le_of_succ_le (HOM.out z hz)))
            refine hK.out _ _ (HK.out _ HB6.out) (fun hHeld => ?_)
            clear hK K
            try simp only [Act.put, List.setIfInBounds_toArray, List.set_cons_zero, List.set_cons_succ]
            refine wpAnyH_ready (rs := [19]) (by kernel_rfl) (by simp) ?_
            refine AllReadyH.cons (by simp only [List.getElem?_toArray, List.getElem?_cons_succ, List.getElem?_cons_zero]; exact rfl) (fun K hK => ?_) AllReadyH.nil
            rw [if_pos (by rfl)]
            go_simp
            refine hK.out _ _ (HK.out _ HB6.out) (fun hHeld => ?_)
            clear hK K
            try simp only [Act.put, List.setIfInBounds_toArray, List.set_cons_zero, List.set_cons_succ]
            refine wpAnyH_ready (rs := [20]) (by kernel_rfl) (by simp) ?_
            refine AllReadyH.cons (by simp only [List.getElem?_toArray, List.getElem?_cons_succ, List.getElem?_cons_zero]; exact rfl) (fun K hK => ?_) AllReadyH.nil
            rw [if_pos (by rfl)]
            go_simp
            refine hK.out _ _ (HK.out _ (HB6.out.setCell (Nat.le_refl _) _)) (fun hHeld => ?_)
            clear hK K
            try simp only [Act.put, List.setIfInBounds_toArray, List.set_cons_zero, List.set_cons_succ]
            refine wpAnyH_done (by kernel_rfl) ?_ _
            have HX6 := Lib.hid ((hgrow6.block XB (Nat.lt_of_lt_of_le (blk_lt HXB.out) (by simp)) (fun e => HNX.out e.symm)).trans ((Below.heap_alloc wr (.cells #[.int .u8 k.kind, .int .i64 k.a, .int .i64 k.b, .int .i64 k.n, .int .u8 k0.kind, .int .i64 k0.a, .int .i64 k0.b, .int .i64 k0.n] 48) XB (blk_lt HXB.out)).trans HXB.out))
            have HO6 := Lib.hid hown6
            have HG6 := Lib.hid (show gg ≠ XB from by
              rcases hat6 with h | h
              · have := HOM.out _ h; omega
              · have := HSY.out; omega)
            have HS6 := Lib.hid (show XB + 1 ≤ w6.heap.size from Nat.le_trans HBS.out hgrow6.size)
            clear hown6 hgrow6 hat6 g0 hbg x0 x0d x0a f0 hxb p5 q5 e0 e1 e2 e3 y0 y1 y2 y3 hbk
            go_wp2_with fail
            go_roundw
            case rel =>
              refine ⟨z, by omega, by go_num, Lib.hid (HB6.out.setCell (Nat.le_refl _) _), Lib.hid (by have := HS6.out; simpa using this), Lib.hid ⟨.slice (some ⟨gg, 0, none⟩) (n + 2) cap6, setCell_heap HX6.out, ?_⟩⟩
              have e : 2 * (U.length - z) = n + 2 := by have := HNN.out; omega
              rw [e, HTS.out, flatC_append]
              exact owns_keep HO6.out (fun y hy => Below.heap_setCell _ _ _ _ (ne_of_own hy HG6.out))
            case measure => simp [intOf]
end Go.Proofs.Ytemeppfikpafbaa
