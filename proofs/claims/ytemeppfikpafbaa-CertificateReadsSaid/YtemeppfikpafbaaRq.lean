/- Texts CkhG, laid together. -/
import Derived.Deep.QuietTactic
import Derived.BigQuiet
import Derived.Test.YtemeppfikpafbaaRp
/- certificate.checkHolds (94). -/
namespace Go.Proofs.Ytemeppfikpafbaa
open Go.RowKit
/-- Holds that a certificate may have. -/
structure HoldsOk (hor : Int) (l : List HV) : Prop where
  asc : ∀ i (h : i + 1 < l.length), ltM l[i].2.m l[i + 1].2.m
  tk : ∀ p ∈ l, ∀ a ∈ p.2.al, a.2.tk ≤ hor
  ok : ∀ p ∈ l, hoOkb p.2 = true
theorem asc_pair {l : List HV} (h : ∀ i (h : i + 1 < l.length), ltM l[i].2.m l[i + 1].2.m) : l.Pairwise fun x y => ltM x.2.m y.2.m := by
  rw [List.pairwise_iff_getElem]
  intro i j hi hj hij
  induction j with
  | zero => omega
  | succ n ih =>
    rcases Nat.lt_or_eq_of_le (Nat.lt_succ_iff.1 hij) with h1 | h1
    · exact ltM_trans (ih (by omega) h1) (h n hj)
    · subst h1; exact h i hj
set_option maxRecDepth 100000 in
set_option maxHeartbeats 4000000 in
theorem checkHolds94_any (arr : Array Value) (hor : Int) (l : List HV) (v : Value) (w : World) (h33 : arr[33]? = some (.int .i64 hor)) (h36 : arr[36]? = some v) (hr : Row anyB w 4 l.length v (flatC hC l)) (hh : ∀ p ∈ l, HAt anyB w p) (hl : l.length ≤ 16) :
    Calls Try.prog 94 #[.agg arr] w fun e w' => (∃ E : Int, e = .returned (.int .i64 E) ∧ ((HoldsOk hor l ∧ E = 0) ∨ (¬ HoldsOk hor l ∧ E = 1))) ∧ Below w.heap.size w w' := by
  obtain ⟨a, cap, rfl, _⟩ := hr.shape
  have HR := Lib.hid hr; clear hr
  have HH := Lib.hid hh; clear hh
  obtain ⟨N, HN⟩ : ∃ N, Hid (N = w.heap.size) := ⟨_, Lib.hid rfl⟩
  have HB1 := Lib.hid (alloc_last w (.cells arr 98))
  have HM1 := Lib.hid (more_alloc w (.cells arr 98))
  rw [← HN.out] at HB1 ⊢
  go_enter Try.func94, Try.ntmps94
  go_upto_region 1 with (fail)
  rw [← HN.out]
  generalize w.alloc (.cells arr 98) = w1 at *
  have HA36 := Lib.hid h36
  have HA33 := Lib.hid h33
  have c36 : w1.cell? ⟨N, 36, none⟩ = some (.slice a l.length cap) := cell_of_blk HB1.out h36
  have hbc := cell_lt c36
  clear h36 h33
  go_wp2_with fail
  clear c36 hbc
  go_loopw [12] (fun i wr => ∃ j : Nat, j ≤ l.length ∧ i = .int .i64 j ∧ Hid (More w1 wr) ∧ Hid (∀ i (h : i + 1 < l.length), i + 1 < j → ltM l[i].2.m l[i + 1].2.m) ∧ Hid (∀ p ∈ l.take j, ∀ a ∈ p.2.al, a.2.tk ≤ hor)) (fun i _ => l.length - (intOf i).toNat)
  case atStart => exact ⟨0, Nat.zero_le _, rfl, Lib.hid (World.grownBy.refl _ _), Lib.hid (fun i _ h => by omega), Lib.hid (fun p h => by simp at h)⟩
  case round =>
    obtain ⟨j, hj, rfl, HM, HAS, HTK⟩ := hrel
    obtain ⟨wo, rfl⟩ : ∃ wo : World, wo = wr := ⟨_, rfl⟩
    have HMW := Lib.hid (more_trans HM1.out HM.out)
    by_cases hlt : j < l.length
    · obtain ⟨b, off, rfl, _, hc⟩ := HR.out.atC hC_len hlt
      have g0 := HMW.out.cell (hc 0 (.int .i64 l[j].2.m.f) rfl)
      have g1 := HMW.out.cell (hc 1 (.int .i64 l[j].2.m.t) rfl)
      have g2 := HMW.out.cell (hc 2 (.int .i64 l[j].2.m.n) rfl)
      have g3 := HMW.out.cell (hc 3 l[j].1 rfl)
      rw [Nat.add_zero] at g0
      clear hc
      have HHX := Lib.hid ((HH.out _ (List.getElem_mem hlt)).more HMW.out)
      obtain ⟨xa, xc, hxv, _⟩ := HHX.out.row.shape
      rw [hxv] at g3
      have HXV := Lib.hid hxv
      clear hxv
      have HT := Lib.hid (show l.take (j + 1) = l.take j ++ [l[j]] from List.take_succ_eq_append_getElem hlt)
      have HME := Lib.hid (List.getElem_mem hlt)
      obtain ⟨z, HZ⟩ : ∃ z : Bool, Hid (z = if h : 0 < j then !decide (cmpM3 (l[j - 1]'(by omega)).2.m l[j].2.m < 0) else false) := ⟨_, Lib.hid rfl⟩
      have HZ0 := Lib.hid (show z = true → ¬ HoldsOk hor l from fun h hk => by
        rw [HZ.out] at h
        by_cases h0 : 0 < j
        · rw [dif_pos h0] at h
          have h1 := hk.asc (j - 1) (by omega)
          have h2 : j - 1 + 1 = j := by omega
          simp only [h2] at h1
          rw [← cmpM_by.neg] at h1
          rw [decide_eq_true h1] at h
          cases h
        · rw [dif_neg h0] at h; cases h)
      have HZ1 := Lib.hid (show z = false → ∀ i (h : i + 1 < l.length), i + 1 < j + 1 → ltM l[i].2.m l[i + 1].2.m from fun h i hi hij => by
        rcases Nat.lt_or_eq_of_le (Nat.lt_succ_iff.1 hij) with h1 | h1
        · exact HAS.out i hi h1
        · rw [HZ.out, dif_pos (by omega)] at h
          rw [Bool.not_eq_false', decide_eq_true_iff, cmpM_by.neg] at h
          have h2 : j - 1 = i := by omega
          simp only [h2] at h
          simp only [h1]
          exact h)
      have HPV := Lib.hid (show ∀ i0, j = i0 + 1 → ∃ (p : HV), (z = !decide (cmpM3 p.2.m l[j].2.m < 0)) ∧ wo.cell? ⟨b, off + i0 * 4, none⟩ = some (.int .i64 p.2.m.f) ∧ wo.cell? ⟨b, off + i0 * 4 + 1, none⟩ = some (.int .i64 p.2.m.t) ∧ wo.cell? ⟨b, off + i0 * 4 + 2, none⟩ = some (.int .i64 p.2.m.n) from fun i0 hi0 => by
        have hi1 : i0 < l.length := by omega
        obtain ⟨b', off', hab, _, hc⟩ := HR.out.atC hC_len hi1
        cases hab
        refine ⟨l[i0], ?_, ?_, HMW.out.cell (hc 1 _ rfl), HMW.out.cell (hc 2 _ rfl)⟩
        · rw [HZ.out, dif_pos (by omega)]
          have h2 : j - 1 = i0 := by omega
          simp only [h2]
        · have h3 := HMW.out.cell (hc 0 (.int .i64 l[i0].2.m.f) rfl)
          rw [Nat.add_zero] at h3
          exact h3)
      have HZ2 := Lib.hid (show j = 0 → z = false from fun h => by rw [HZ.out, dif_neg (by omega)])
      clear HZ
      have HLT := Lib.hid hlt
      generalize l[j] = x at *
      have hbg := cell_lt g0
      have HXB := Lib.hid (alloc_last wo (.cells #[.int .i64 x.2.m.f, .int .i64 x.2.m.t, .int .i64 x.2.m.n, .slice xa x.2.al.length xc] 166))
      have HMO := Lib.hid (more_alloc wo (.cells #[.int .i64 x.2.m.f, .int .i64 x.2.m.t, .int .i64 x.2.m.n, .slice xa x.2.al.length xc] 166))
      go_upto_region 4 with (fail)
      clear g0 g1 g2 g3 hbg
      generalize wo.alloc (.cells #[.int .i64 x.2.m.f, .int .i64 x.2.m.t, .int .i64 x.2.m.n, .slice xa x.2.al.length xc] 166) = w5 at *
      obtain ⟨XB, HXE⟩ : ∃ XB, Hid (XB = wo.heap.size) := ⟨_, Lib.hid rfl⟩
      rw [← HXE.out] at HXB ⊢
      have HNB5 := Lib.hid (((more_trans HM.out HMO.out).block (blk_lt HB1.out)).trans HB1.out)
      go_cut [31] (fun s wx => s = .bool z ∧ Hid (More w5 wx))
      case first =>
        by_cases hj0 : j = 0
        · subst hj0
          have hz := HZ2.out rfl
          subst hz
          go_quiet (fail)
          go_wp2_with fail
          go_meet
          case rel => exact ⟨rfl, Lib.hid (grownBy_drewN _ _ _)⟩
        · obtain ⟨i0, rfl⟩ : ∃ i0, j = i0 + 1 := ⟨j - 1, by omega⟩
          obtain ⟨p, hz, e0, e1, e2⟩ := HPV.out i0 rfl
          have e0 := HMO.out.cell e0
          have e1 := HMO.out.cell e1
          have e2 := HMO.out.cell e2
          have HC := Lib.hid (show ∀ W, Calls Try.prog 145 #[.agg #[.int .i64 p.2.m.f, .int .i64 p.2.m.t, .int .i64 p.2.m.n], .agg #[.int .i64 x.2.m.f, .int .i64 x.2.m.t, .int .i64 x.2.m.n]] W fun e w' => e = .returned (.bool (decide (cmpM3 p.2.m x.2.m < 0))) ∧ Lay W w' from fun W => lessM145 p.2.m x.2.m W)
          obtain ⟨q, HQ⟩ : ∃ q, Hid (decide (cmpM3 p.2.m x.2.m < 0) = q) := ⟨_, Lib.hid rfl⟩
          rw [HQ.out] at HC hz
          have HZQ := Lib.hid hz
          clear hz hj0
          have n36 : w5.cell? ⟨N, 36, none⟩ = some (.slice (some ⟨b, off, none⟩) l.length cap) := cell_of_blk HNB5.out HA36.out
          have x0 : w5.cell? ⟨XB, 0, none⟩ = some (.int .i64 x.2.m.f) := cell_of_blk HXB.out rfl
          have x1 : w5.cell? ⟨XB, 1, none⟩ = some (.int .i64 x.2.m.t) := cell_of_blk HXB.out rfl
          have x2 : w5.cell? ⟨XB, 2, none⟩ = some (.int .i64 x.2.m.n) := cell_of_blk HXB.out rfl
          have hwi : IntKind.i64.wrap (i0 : Int) = i0 := by rw [IntKind.wrap_i64]; omega
          have hbn := cell_lt n36
          have hbx := cell_lt x0
          have hbe := cell_lt e0
          have hil : (i0 : Int) < l.length := by omega
          have HK := Lib.hid (show ∀ W, More w5 W → (W.cell? ⟨N, 36, none⟩ = some (.slice (some ⟨b, off, none⟩) l.length cap) ∧ W.cell? ⟨b, off + i0 * 4, none⟩ = some (.int .i64 p.2.m.f) ∧ W.cell? ⟨b, off + i0 * 4 + 1, none⟩ = some (.int .i64 p.2.m.t) ∧ W.cell? ⟨b, off + i0 * 4 + 2, none⟩ = some (.int .i64 p.2.m.n) ∧ W.cell? ⟨XB, 0, none⟩ = some (.int .i64 x.2.m.f) ∧ W.cell? ⟨XB, 1, none⟩ = some (.int .i64 x.2.m.t) ∧ W.cell? ⟨XB, 2, none⟩ = some (.int .i64 x.2.m.n)) from fun W h => ⟨h.cell n36, h.cell e0, h.cell e1, h.cell e2, h.cell x0, h.cell x1, h.cell x2⟩)
          have HL := Lib.hid (more_drew w5)
          go_region_held3 (fun W => W.cell? ⟨N, 36, none⟩ = some (.slice (some ⟨b, off, none⟩) l.length cap) ∧ W.cell? ⟨b, off + i0 * 4, none⟩ = some (.int .i64 p.2.m.f) ∧ W.cell? ⟨b, off + i0 * 4 + 1, none⟩ = some (.int .i64 p.2.m.t) ∧ W.cell? ⟨b, off + i0 * 4 + 2, none⟩ = some (.int .i64 p.2.m.n) ∧ W.cell? ⟨XB, 0, none⟩ = some (.int .i64 x.2.m.f) ∧ W.cell? ⟨XB, 1, none⟩ = some (.int .i64 x.2.m.t) ∧ W.cell? ⟨XB, 2, none⟩ = some (.int .i64 x.2.m.n)) (first | with_reducible exact HK.out _ HL.out) (first | (go_at_call 145; refine (HC.out _).mono ?_; rintro e w9 ⟨rfl, hl9⟩; have HL := Lib.hid (more_trans HL.out hl9.1); clear hl9))
          all_goals
            go_wp2_with fail
            go_meet
            case rel => exact ⟨by rw [HZQ.out], HL⟩
      case rest =>
        obtain ⟨rfl, HMC⟩ := hcut
        obtain ⟨w6, rfl⟩ : ∃ w6 : World, w6 = wc := ⟨_, rfl⟩
        have HM6 := Lib.hid (more_trans HM.out (more_trans HMO.out HMC.out))
        have HB6 := Lib.hid (show Below N w w6 by rw [HN.out]; exact (more_trans HM1.out HM6.out).below)
        cases z with
        | true =>
          go_wp2_with fail
          go_ret
          exact ⟨⟨1, rfl, Or.inr ⟨(by first | exact HZ0.out rfl | exact HZ0.out trivial), rfl⟩⟩, HB6.out⟩
        | false =>
          have HXB6 := Lib.hid ((HMC.out.block (blk_lt HXB.out)).trans HXB.out)
          have HNB6 := Lib.hid ((HM6.out.block (blk_lt HB1.out)).trans HB1.out)
          have x3 : w6.cell? ⟨XB, 3, none⟩ = some (.slice xa x.2.al.length xc) := cell_of_blk HXB6.out rfl
          have hbx := cell_lt x3
          obtain ⟨an, HAN⟩ : ∃ an, Hid (x.2.al.length = an) := ⟨_, Lib.hid rfl⟩
          rw [HAN.out] at x3
          have han : an ≤ 9223372036854775807 := by have h1 := HHX.out.len; unfold maxLen at h1; have h2 := HAN.out; omega
          go_wp2_with fail
          clear x3 hbx
          go_loopw [35] (fun i wx => ∃ m : Nat, m ≤ an ∧ i = .int .i64 m ∧ Hid (More w6 wx) ∧ Hid (∀ q ∈ x.2.al.take m, q.2.tk ≤ hor)) (fun i _ => an - (intOf i).toNat)
          case atStart => exact ⟨0, Nat.zero_le _, rfl, Lib.hid (World.grownBy.refl _ _), Lib.hid (fun p h => by simp at h)⟩
          case round =>
            obtain ⟨m, hm, rfl, HMX, HTX⟩ := hrel
            obtain ⟨wx, rfl⟩ : ∃ wx : World, wx = wr := ⟨_, rfl⟩
            have HMZ := Lib.hid (more_trans HM6.out HMX.out)
            have HBZ := Lib.hid (show Below N w wx by rw [HN.out]; exact (more_trans HM1.out HMZ.out).below)
            by_cases hmt : m < an
            · have hml : m < x.2.al.length := by rw [HAN.out]; exact hmt
              have hrw := HHX.out.row
              rw [HXV.out] at hrw
              obtain ⟨b2, off2, rfl, _, hc⟩ := hrw.atC aC_len hml
              have HWX := Lib.hid (show More wo wx from more_trans HMO.out (more_trans HMC.out HMX.out))
              have e0 := HWX.out.cell (hc 0 (.int .i64 x.2.al[m].2.tk) rfl)
              have e1 := HWX.out.cell (hc 1 (.int .i64 x.2.al[m].2.hd) rfl)
              have e2 := HWX.out.cell (hc 2 x.2.al[m].1 rfl)
              rw [Nat.add_zero] at e0
              clear hc hrw
              obtain ⟨ya, yc, hyv, _⟩ := (HHX.out.arg _ (List.getElem_mem hml)).1.shape
              rw [hyv] at e2
              clear hyv
              have HTM := Lib.hid (show x.2.al.take (m + 1) = x.2.al.take m ++ [x.2.al[m]] from List.take_succ_eq_append_getElem hml)
              have HBAD := Lib.hid (show ¬ x.2.al[m].2.tk ≤ hor → ¬ HoldsOk hor l from fun h hk => h (hk.tk _ HME.out _ (List.getElem_mem hml)))
              have HMT := Lib.hid hmt
              generalize x.2.al[m] = y at *
              clear hml
              have hbe := cell_lt e0
              have HYB := Lib.hid (alloc_last wx (.cells #[.int .i64 y.2.tk, .int .i64 y.2.hd, .slice ya y.2.l.length yc] 177))
              have HMY := Lib.hid (more_alloc wx (.cells #[.int .i64 y.2.tk, .int .i64 y.2.hd, .slice ya y.2.l.length yc] 177))
              go_upto_region 9 with (fail)
              clear e0 e1 e2 hbe
              generalize wx.alloc (.cells #[.int .i64 y.2.tk, .int .i64 y.2.hd, .slice ya y.2.l.length yc] 177) = w9 at *
              generalize wx.heap.size = YB at *
              have HNB9 := Lib.hid (((more_trans HMZ.out HMY.out).block (blk_lt HB1.out)).trans HB1.out)
              have HB9 := Lib.hid (show Below N w w9 by rw [HN.out]; exact (more_trans HM1.out (more_trans HMZ.out HMY.out)).below)
              have y0 : w9.cell? ⟨YB, 0, none⟩ = some (.int .i64 y.2.tk) := cell_of_blk HYB.out rfl
              have n33 : w9.cell? ⟨N, 33, none⟩ = some (.int .i64 hor) := cell_of_blk HNB9.out HA33.out
              have hby := cell_lt y0
              have hbn := cell_lt n33
              by_cases hgt : hor < y.2.tk
              · have HB := Lib.hid (HBAD.out (by omega))
                go_wp2_with fail
                go_ret
                exact ⟨⟨1, rfl, Or.inr ⟨HB.out, rfl⟩⟩, HB9.out⟩
              · have hd0 : decide (hor < y.2.tk) = false := decide_eq_false hgt
                have HLE := Lib.hid (show y.2.tk ≤ hor by omega)
                clear hgt
                have hmt9 := HMT.out
                go_wp2_with fail
                go_roundw
                case rel => exact ⟨m + 1, by omega, by go_num, Lib.hid (more_trans HMX.out HMY.out), Lib.hid (fun q hq => by
                  rw [HTM.out] at hq
                  rcases List.mem_append.1 hq with h | h
                  · exact HTX.out q h
                  · rw [List.mem_singleton] at h; subst h; exact HLE.out)⟩
                case measure => have := HMT.out; simp [intOf]; omega
            · obtain rfl : m = an := by omega
              rw [List.take_of_length_le (by rw [HAN.out]; exact Nat.le_refl _)] at HTX
              have hlt9 := HLT.out
              go_wp2_with fail
              go_roundw
              case rel => exact ⟨j + 1, by omega, by go_num, Lib.hid (more_trans HM6.out HMX.out), Lib.hid (HZ1.out (by first | rfl | trivial)), Lib.hid (fun p hp => by
                  rw [HT.out] at hp
                  rcases List.mem_append.1 hp with h | h
                  · exact HTK.out p h
                  · rw [List.mem_singleton] at h; subst h; exact HTX.out)⟩
              case measure => have := HLT.out; simp [intOf]; omega
    · obtain rfl : j = l.length := by omega
      rw [List.take_of_length_le (Nat.le_refl _)] at HTK
      have HASC := Lib.hid (show ∀ i (h : i + 1 < l.length), ltM l[i].2.m l[i + 1].2.m from fun i h => HAS.out i h (by omega))
      have HNB6 := Lib.hid ((HM.out.block (blk_lt HB1.out)).trans HB1.out)
      have n36 : wo.cell? ⟨N, 36, none⟩ = some (.slice a l.length cap) := cell_of_blk HNB6.out HA36.out
      have hbn := cell_lt n36
      have HNW := Lib.hid (new146_any l (.slice a l.length cap) wo hl (HR.out.below HMW.out.below) (fun p hp => (HH.out p hp).more HMW.out) ((asc_pair HASC.out).imp fun h e => by rw [e] at h; exact ltM_irrefl _ h))
      clear hlt hj
      go_wp2_with fail
      refine HNW.out.mono ?_
      rintro e w6 ⟨⟨q, rfl⟩, hb6⟩
      have HB6 := Lib.hid (show Below N w w6 by rw [HN.out]; exact (more_trans HMW.out (more_of hb6)).below)
      clear hb6 n36 hbn
      obtain ⟨z, HZ⟩ : ∃ z, Hid (l.all (fun p => hoOkb p.2) = z) := ⟨_, Lib.hid rfl⟩
      rw [HZ.out]
      cases z with
      | true =>
        go_wp2_with fail
        go_ret
        exact ⟨⟨0, rfl, Or.inl ⟨⟨HASC.out, HTK.out, fun p hp => List.all_eq_true.1 HZ.out p hp⟩, rfl⟩⟩, HB6.out⟩
      | false =>
        go_wp2_with fail
        go_ret
        have HBAD := Lib.hid (show ¬ HoldsOk hor l from fun hk => by
          have h1 := HZ.out
          rw [List.all_eq_true.2 (fun p hp => hk.ok p hp)] at h1
          exact Bool.noConfusion h1)
        exact ⟨⟨1, rfl, Or.inr ⟨HBAD.out, rfl⟩⟩, HB6.out⟩
end Go.Proofs.Ytemeppfikpafbaa

