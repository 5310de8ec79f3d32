/- Texts RefG, laid together. -/
import Derived.Test.YtemeppfikpafbaaRr
import Derived.Test.YtemeppfikpafbaaRs
/- rootcauseref50.less (96), hold (95). -/
namespace Go.Proofs.Ytemeppfikpafbaa
open Go.RowKit
set_option maxRecDepth 100000 in
set_option maxHeartbeats 2000000 in
theorem less96_ref (x y : M3) (w : World) : Calls Try.prog 96 #[.agg #[.int .i64 x.f, .int .i64 x.t, .int .i64 x.n], .agg #[.int .i64 y.f, .int .i64 y.t, .int .i64 y.n]] w fun e w' => e = .returned (.bool (ltMb x y)) ∧ Lay w w' := by
  obtain ⟨xf, xt, xn⟩ := x
  obtain ⟨yf, yt, yn⟩ := y
  dsimp only
  by_cases hf : xf = yf
  · subst hf
    by_cases ht : xt = yt
    · subst ht
      have e : ltMb ⟨xf, xt, xn⟩ ⟨xf, xt, yn⟩ = decide (xn < yn) := by unfold ltMb; rw [Bool.eq_iff_iff, decide_eq_true_iff, decide_eq_true_iff]; unfold ltM; dsimp only; omega
      rw [e]
      clear e
      go_enter Try.func96, Try.ntmps96
      go_wp2_with fail
      obtain ⟨ha, hb, hm⟩ := boxed2 w (.cells #[.int .i64 xf, .int .i64 xt, .int .i64 xn] 54) (.cells #[.int .i64 xf, .int .i64 xt, .int .i64 yn] 54)
      generalize (w.alloc (.cells #[.int .i64 xf, .int .i64 xt, .int .i64 xn] 54)).alloc (.cells #[.int .i64 xf, .int .i64 xt, .int .i64 yn] 54) = w2 at *
      have a0 : w2.cell? ⟨w.heap.size, 0, none⟩ = some (.int .i64 xf) := cell_of_blk ha rfl
      have a1 : w2.cell? ⟨w.heap.size, 1, none⟩ = some (.int .i64 xt) := cell_of_blk ha rfl
      have a2 : w2.cell? ⟨w.heap.size, 2, none⟩ = some (.int .i64 xn) := cell_of_blk ha rfl
      have b0 : w2.cell? ⟨w.heap.size + 1, 0, none⟩ = some (.int .i64 xf) := cell_of_blk hb rfl
      have b1 : w2.cell? ⟨w.heap.size + 1, 1, none⟩ = some (.int .i64 xt) := cell_of_blk hb rfl
      have b2 : w2.cell? ⟨w.heap.size + 1, 2, none⟩ = some (.int .i64 yn) := cell_of_blk hb rfl
      have HM := Lib.hid hm
      clear ha hb hm
      go_wp2_with fail
      go_ret
      exact ⟨rfl, HM.out⟩
    · skip
      have e : ltMb ⟨xf, xt, xn⟩ ⟨xf, yt, yn⟩ = decide (xt < yt) := by unfold ltMb; rw [Bool.eq_iff_iff, decide_eq_true_iff, decide_eq_true_iff]; unfold ltM; dsimp only; omega
      rw [e]
      clear e
      go_enter Try.func96, Try.ntmps96
      go_wp2_with fail
      obtain ⟨ha, hb, hm⟩ := boxed2 w (.cells #[.int .i64 xf, .int .i64 xt, .int .i64 xn] 54) (.cells #[.int .i64 xf, .int .i64 yt, .int .i64 yn] 54)
      generalize (w.alloc (.cells #[.int .i64 xf, .int .i64 xt, .int .i64 xn] 54)).alloc (.cells #[.int .i64 xf, .int .i64 yt, .int .i64 yn] 54) = w2 at *
      have a0 : w2.cell? ⟨w.heap.size, 0, none⟩ = some (.int .i64 xf) := cell_of_blk ha rfl
      have a1 : w2.cell? ⟨w.heap.size, 1, none⟩ = some (.int .i64 xt) := cell_of_blk ha rfl
      have a2 : w2.cell? ⟨w.heap.size, 2, none⟩ = some (.int .i64 xn) := cell_of_blk ha rfl
      have b0 : w2.cell? ⟨w.heap.size + 1, 0, none⟩ = some (.int .i64 xf) := cell_of_blk hb rfl
      have b1 : w2.cell? ⟨w.heap.size + 1, 1, none⟩ = some (.int .i64 yt) := cell_of_blk hb rfl
      have b2 : w2.cell? ⟨w.heap.size + 1, 2, none⟩ = some (.int .i64 yn) := cell_of_blk hb rfl
      have HM := Lib.hid hm
      clear ha hb hm
      go_wp2_with fail
      go_ret
      exact ⟨rfl, HM.out⟩
  · skip
    have e : ltMb ⟨xf, xt, xn⟩ ⟨yf, yt, yn⟩ = decide (xf < yf) := by unfold ltMb; rw [Bool.eq_iff_iff, decide_eq_true_iff, decide_eq_true_iff]; unfold ltM; dsimp only; omega
    rw [e]
    clear e
    go_enter Try.func96, Try.ntmps96
    go_wp2_with fail
    obtain ⟨ha, hb, hm⟩ := boxed2 w (.cells #[.int .i64 xf, .int .i64 xt, .int .i64 xn] 54) (.cells #[.int .i64 yf, .int .i64 yt, .int .i64 yn] 54)
    generalize (w.alloc (.cells #[.int .i64 xf, .int .i64 xt, .int .i64 xn] 54)).alloc (.cells #[.int .i64 yf, .int .i64 yt, .int .i64 yn] 54) = w2 at *
    have a0 : w2.cell? ⟨w.heap.size, 0, none⟩ = some (.int .i64 xf) := cell_of_blk ha rfl
    have a1 : w2.cell? ⟨w.heap.size, 1, none⟩ = some (.int .i64 xt) := cell_of_blk ha rfl
    have a2 : w2.cell? ⟨w.heap.size, 2, none⟩ = some (.int .i64 xn) := cell_of_blk ha rfl
    have b0 : w2.cell? ⟨w.heap.size + 1, 0, none⟩ = some (.int .i64 yf) := cell_of_blk hb rfl
    have b1 : w2.cell? ⟨w.heap.size + 1, 1, none⟩ = some (.int .i64 yt) := cell_of_blk hb rfl
    have b2 : w2.cell? ⟨w.heap.size + 1, 2, none⟩ = some (.int .i64 yn) := cell_of_blk hb rfl
    have HM := Lib.hid hm
    clear ha hb hm
    go_wp2_with fail
    go_ret
    exact ⟨rfl, HM.out⟩
/-- A hold up to a horizon. -/
def HoldRef (hor : Int) (h : Ho) : Prop := hoOkb h = true ∧ ∀ a ∈ h.al, a.2.tk ≤ hor
theorem ho_parts {m : M3} {al : List AV} (h : hoOkb ⟨m, al⟩ = true) : 0 ≤ m.f ∧ m.f < 8 ∧ 0 ≤ m.t ∧ m.t < 8 ∧ 0 ≤ m.n ∧ m.n ≤ 65535 ∧ al.length ≤ 2 ∧ arOkb 1 al = true := by
  unfold hoOkb msgOkb at h
  simp only [Bool.and_eq_true, decide_eq_true_eq] at h
  obtain ⟨⟨h1, h2, h3⟩, h4, h5⟩ := h
  exact ⟨h1.1, h1.2, h2.1, h2.2, h3.1, h3.2, h4, h5⟩
set_option maxRecDepth 100000 in
set_option maxHeartbeats 4000000 in
theorem hold95_any (p : HV) (hor : Int) (E : Bool) (hE : E = true ↔ HoldRef hor p.2) (w : World) (hp : HAt anyB w p) : Calls Try.prog 95 #[hA p, .int .i64 hor] w fun e w' => e = .returned (.bool E) ∧ Below w.heap.size w w' := by
  obtain ⟨v, ⟨⟨mf, mt, mn⟩, al⟩⟩ := p
  have HE := Lib.hid hE; clear hE
  have HFA := Lib.hid (show ¬ HoldRef hor (v, (⟨⟨mf, mt, mn⟩, al⟩ : Ho)).2 → E = false from fun h => by
    cases E with
    | false => rfl
    | true => exact absurd (HE.out.1 rfl) h)
  have hrow := hp.row
  have hlen := hp.len
  have HAR := Lib.hid (fun q (hq : q ∈ al) => And.intro (hp.arg q hq).1 (hp.lens q hq))
  clear hp
  unfold hA
  dsimp only at *
  obtain ⟨sa, sc, rfl, _⟩ := hrow.shape
  have HR := Lib.hid hrow; clear hrow
  unfold maxLen at hlen
  obtain ⟨ln, HLN⟩ : ∃ ln, Hid (al.length = ln) := ⟨_, Lib.hid rfl⟩
  have HP := Lib.hid (fun (h : HoldRef hor ⟨⟨mf, mt, mn⟩, al⟩) => ho_parts h.1)
  rw [HLN.out] at HR hlen HP ⊢
  have HB1 := Lib.hid (alloc_last w (.cells #[.int .i64 mf, .int .i64 mt, .int .i64 mn, .slice sa ln sc] 166))
  have HM1 := Lib.hid (more_alloc w (.cells #[.int .i64 mf, .int .i64 mt, .int .i64 mn, .slice sa ln sc] 166))
  obtain ⟨N, HN⟩ : ∃ N, Hid (N = w.heap.size) := ⟨_, Lib.hid rfl⟩
  rw [← HN.out] at HB1 ⊢
  go_enter Try.func95, Try.ntmps95
  go_upto_region 1 with (fail)
  rw [← HN.out]
  generalize w.alloc (.cells #[.int .i64 mf, .int .i64 mt, .int .i64 mn, .slice sa ln sc] 166) = w1 at *
  have c0 : w1.cell? ⟨N, 0, none⟩ = some (.int .i64 mf) := cell_of_blk HB1.out rfl
  have c1 : w1.cell? ⟨N, 1, none⟩ = some (.int .i64 mt) := cell_of_blk HB1.out rfl
  have c2 : w1.cell? ⟨N, 2, none⟩ = some (.int .i64 mn) := cell_of_blk HB1.out rfl
  have hbc := cell_lt c0
  have HB2 := Lib.hid (alloc_last w1 (.cells #[.int .i64 mf, .int .i64 mt, .int .i64 mn] 54))
  have HM2 := Lib.hid (more_alloc w1 (.cells #[.int .i64 mf, .int .i64 mt, .int .i64 mn] 54))
  go_upto_region 2 with (fail)
  have HB1b := Lib.hid ((HM2.out.block (blk_lt HB1.out)).trans HB1.out)
  generalize w1.alloc (.cells #[.int .i64 mf, .int .i64 mt, .int .i64 mn] 54) = w2 at *
  generalize w1.heap.size = MB at *
  clear c0 c1 c2 hbc
  have m0 : w2.cell? ⟨MB, 0, none⟩ = some (.int .i64 mf) := cell_of_blk HB2.out rfl
  have m1 : w2.cell? ⟨MB, 1, none⟩ = some (.int .i64 mt) := cell_of_blk HB2.out rfl
  have m2 : w2.cell? ⟨MB, 2, none⟩ = some (.int .i64 mn) := cell_of_blk HB2.out rfl
  have c3 : w2.cell? ⟨N, 3, none⟩ = some (.slice sa ln sc) := cell_of_blk HB1b.out rfl
  have hbm := cell_lt m0
  have hbc := cell_lt c3
  have HBE := Lib.hid (show Below N w w2 from by rw [HN.out]; exact (more_trans HM1.out HM2.out).below)
  by_cases r0 : mf < 0
  · have HNO := Lib.hid (show ¬ HoldRef hor ⟨⟨mf, mt, mn⟩, al⟩ from fun h => by have h1 := HP.out h; dsimp only at h1; omega)
    have r0' : mf < 0 := by omega
    go_wp2_with fail
    go_ret
    exact ⟨by rw [HFA.out HNO.out]; rfl, HBE.out⟩
  · have d0 : decide (mf < 0) = false := decide_eq_false (by omega)
    by_cases r1 : 8 ≤ mf
    · have HNO := Lib.hid (show ¬ HoldRef hor ⟨⟨mf, mt, mn⟩, al⟩ from fun h => by have h1 := HP.out h; dsimp only at h1; omega)
      have r1' : 8 ≤ mf := by omega
      go_wp2_with fail
      go_ret
      exact ⟨by rw [HFA.out HNO.out]; rfl, HBE.out⟩
    · have d1 : decide (8 ≤ mf) = false := decide_eq_false (by omega)
      by_cases r2 : mt < 0
      · have HNO := Lib.hid (show ¬ HoldRef hor ⟨⟨mf, mt, mn⟩, al⟩ from fun h => by have h1 := HP.out h; dsimp only at h1; omega)
        have r2' : mt < 0 := by omega
        go_wp2_with fail
        go_ret
        exact ⟨by rw [HFA.out HNO.out]; rfl, HBE.out⟩
      · have d2 : decide (mt < 0) = false := decide_eq_false (by omega)
        by_cases r3 : 8 ≤ mt
        · have HNO := Lib.hid (show ¬ HoldRef hor ⟨⟨mf, mt, mn⟩, al⟩ from fun h => by have h1 := HP.out h; dsimp only at h1; omega)
          have r3' : 8 ≤ mt := by omega
          go_wp2_with fail
          go_ret
          exact ⟨by rw [HFA.out HNO.out]; rfl, HBE.out⟩
        · have d3 : decide (8 ≤ mt) = false := decide_eq_false (by omega)
          by_cases r4 : mn < 0
          · have HNO := Lib.hid (show ¬ HoldRef hor ⟨⟨mf, mt, mn⟩, al⟩ from fun h => by have h1 := HP.out h; dsimp only at h1; omega)
            have r4' : mn < 0 := by omega
            go_wp2_with fail
            go_ret
            exact ⟨by rw [HFA.out HNO.out]; rfl, HBE.out⟩
          · have d4 : decide (mn < 0) = false := decide_eq_false (by omega)
            by_cases r5 : 65535 < mn
            · have HNO := Lib.hid (show ¬ HoldRef hor ⟨⟨mf, mt, mn⟩, al⟩ from fun h => by have h1 := HP.out h; dsimp only at h1; omega)
              have r5' : 65535 < mn := by omega
              go_wp2_with fail
              go_ret
              exact ⟨by rw [HFA.out HNO.out]; rfl, HBE.out⟩
            · have d5 : decide (65535 < mn) = false := decide_eq_false (by omega)
              by_cases r6 : 2 < ln
              · have HNO := Lib.hid (show ¬ HoldRef hor ⟨⟨mf, mt, mn⟩, al⟩ from fun h => by have h1 := HP.out h; dsimp only at h1; omega)
                have r6' : (2 : Int) < ln := by omega
                go_wp2_with fail
                go_ret
                exact ⟨by rw [HFA.out HNO.out]; rfl, HBE.out⟩
              · have d6 : decide ((2 : Int) < ln) = false := decide_eq_false (by omega)
                have HL2 := Lib.hid (show ln ≤ 2 by omega)
                have HE1 := Lib.hid (show (arOkb 1 al = true ∧ ∀ a ∈ al, a.2.tk ≤ hor) ↔ E = true from by
                  rw [HE.out]
                  unfold HoldRef
                  dsimp only
                  refine ⟨fun h => ⟨?_, h.2⟩, fun h => ⟨(ho_parts h.1).2.2.2.2.2.2.2, h.2⟩⟩
                  unfold hoOkb msgOkb
                  dsimp only
                  rw [h.1, decide_eq_true (show 0 ≤ mf ∧ mf < 8 by omega), decide_eq_true (show 0 ≤ mt ∧ mt < 8 by omega), decide_eq_true (show 0 ≤ mn ∧ mn ≤ 65535 by omega), decide_eq_true (show al.length ≤ 2 by rw [HLN.out]; exact HL2.out)]
                  rfl)
                clear r0 r1 r2 r3 r4 r5 r6 hlen
                go_wp2_with fail
                clear m0 m1 m2 c3 hbm hbc d0 d1 d2 d3 d4 d5 d6
                go_loopw [6, 48] (fun u i wr => ∃ (j : Nat) (last : Int), j ≤ ln ∧ i = .int .i64 j ∧ u = .int .i64 last ∧ Hid (More w2 wr) ∧ Hid ((arOkb last (al.drop j) = true ∧ ∀ a ∈ al.drop j, a.2.tk ≤ hor) ↔ E = true)) (fun _ i _ => ln - (intOf i).toNat)
                case atStart => exact ⟨0, 1, Nat.zero_le _, rfl, rfl, Lib.hid (World.grownBy.refl _ _), HE1⟩
                case round =>
                  obtain ⟨j, last, hj, rfl, rfl, HM, HEQ⟩ := hrel
                  have HMW := Lib.hid (show More w wr from more_trans (more_trans HM1.out HM2.out) HM.out)
                  have HBW := Lib.hid (show Below N w wr from by rw [HN.out]; exact HMW.out.below)
                  have hln2 := HL2.out
                  by_cases hlt : j < ln
                  · have hjl : j < al.length := by rw [HLN.out]; exact hlt
                    have hrw := HR.out
                    rw [← HLN.out] at hrw
                    obtain ⟨b, off, rfl, _, hc⟩ := hrw.atC aC_len hjl
                    have g0 := HMW.out.cell (hc 0 (.int .i64 al[j].2.tk) rfl)
                    have g1 := HMW.out.cell (hc 1 (.int .i64 al[j].2.hd) rfl)
                    have g2 := HMW.out.cell (hc 2 al[j].1 rfl)
                    rw [Nat.add_zero] at g0
                    clear hc hrw
                    obtain ⟨xa, xc, hxv, _⟩ := (HAR.out _ (List.getElem_mem hjl)).1.shape
                    have hxl := (HAR.out _ (List.getElem_mem hjl)).2
                    rw [hxv] at g2
                    rw [List.drop_eq_getElem_cons hjl] at HEQ
                    have HLT := Lib.hid hlt
                    generalize al[j] = x at *
                    clear hxv hjl
                    unfold maxLen at hxl
                    have hbg := cell_lt g0
                    have HMO := Lib.hid (more_alloc wr (.cells #[.int .i64 x.2.tk, .int .i64 x.2.hd, .slice xa x.2.l.length xc] 177))
                    have HXB := Lib.hid (alloc_last wr (.cells #[.int .i64 x.2.tk, .int .i64 x.2.hd, .slice xa x.2.l.length xc] 177))
                    go_upto_region 8 with (fail)
                    clear g0 g1 g2 hbg
                    have HB9 := Lib.hid (show Below N w _ from HBW.out.trans (HMO.out.below.mono (by rw [HN.out]; exact HMW.out.size)))
                    generalize wr.alloc (.cells #[.int .i64 x.2.tk, .int .i64 x.2.hd, .slice xa x.2.l.length xc] 177) = w5 at *
                    generalize wr.heap.size = XB at *
                    have x0 : w5.cell? ⟨XB, 0, none⟩ = some (.int .i64 x.2.tk) := cell_of_blk HXB.out rfl
                    have x1 : w5.cell? ⟨XB, 1, none⟩ = some (.int .i64 x.2.hd) := cell_of_blk HXB.out rfl
                    have x2 : w5.cell? ⟨XB, 2, none⟩ = some (.slice xa x.2.l.length xc) := cell_of_blk HXB.out rfl
                    have hbx := cell_lt x0
                    have HBAD := Lib.hid (show (x.2.tk < last ∨ hor < x.2.tk ∨ x.2.hd < 0 ∨ 8 ≤ x.2.hd ∨ 4 < x.2.l.length) → ¬ HoldRef hor ⟨⟨mf, mt, mn⟩, al⟩ from fun hb hk => by
                      obtain ⟨h1, h2⟩ := HEQ.out.2 (HE.out.2 hk)
                      have h3 := h2 x (by simp)
                      unfold arOkb at h1
                      split at h1
                      · cases h1
                      · omega)
                    have HGO := Lib.hid (show ¬ (x.2.tk < last ∨ hor < x.2.tk ∨ x.2.hd < 0 ∨ 8 ≤ x.2.hd ∨ 4 < x.2.l.length) → ((arOkb x.2.tk (al.drop (j + 1)) = true ∧ ∀ a ∈ al.drop (j + 1), a.2.tk ≤ hor) ↔ E = true) from fun hg => by
                      rw [← HEQ.out]
                      have e : arOkb last (x :: al.drop (j + 1)) = arOkb x.2.tk (al.drop (j + 1)) := by rw [arOkb, if_neg (by omega)]
                      rw [e]
                      exact ⟨fun h => ⟨h.1, fun a ha => by
                        rcases List.mem_cons.1 ha with rfl | ha
                        · omega
                        · exact h.2 a ha⟩, fun h => ⟨h.1, fun a ha => h.2 a (List.mem_cons_of_mem _ ha)⟩⟩)
                    by_cases s0 : x.2.tk < last
                    · have HNO := Lib.hid (HBAD.out (Or.inl s0))
                      have s0' : x.2.tk < last := by omega
                      go_wp2_with fail
                      go_ret
                      exact ⟨by rw [HFA.out HNO.out]; rfl, HB9.out⟩
                    · have e0 : decide (x.2.tk < last) = false := decide_eq_false (by omega)
                      by_cases s1 : hor < x.2.tk
                      · have HNO := Lib.hid (HBAD.out (Or.inr (Or.inl s1)))
                        have s1' : hor < x.2.tk := by omega
                        go_wp2_with fail
                        go_ret
                        exact ⟨by rw [HFA.out HNO.out]; rfl, HB9.out⟩
                      · have e1 : decide (hor < x.2.tk) = false := decide_eq_false (by omega)
                        by_cases s2 : x.2.hd < 0
                        · have HNO := Lib.hid (HBAD.out (Or.inr (Or.inr (Or.inl s2))))
                          have s2' : x.2.hd < 0 := by omega
                          go_wp2_with fail
                          go_ret
                          exact ⟨by rw [HFA.out HNO.out]; rfl, HB9.out⟩
                        · have e2 : decide (x.2.hd < 0) = false := decide_eq_false (by omega)
                          by_cases s3 : 8 ≤ x.2.hd
                          · have HNO := Lib.hid (HBAD.out (Or.inr (Or.inr (Or.inr (Or.inl s3)))))
                            have s3' : 8 ≤ x.2.hd := by omega
                            go_wp2_with fail
                            go_ret
                            exact ⟨by rw [HFA.out HNO.out]; rfl, HB9.out⟩
                          · have e3 : decide (8 ≤ x.2.hd) = false := decide_eq_false (by omega)
                            by_cases s4 : 4 < x.2.l.length
                            · have HNO := Lib.hid (HBAD.out (Or.inr (Or.inr (Or.inr (Or.inr s4)))))
                              have s4' : (4 : Int) < x.2.l.length := by omega
                              go_wp2_with fail
                              go_ret
                              exact ⟨by rw [HFA.out HNO.out]; rfl, HB9.out⟩
                            · have e4 : decide ((4 : Int) < x.2.l.length) = false := decide_eq_false (by omega)
                              have HG := Lib.hid (HGO.out (by omega))
                              clear s0 s1 s2 s3 s4
                              have hlt9 := HLT.out
                              go_wp2_with fail
                              go_roundw
                              case rel => exact ⟨j + 1, x.2.tk, by omega, by go_num, rfl, Lib.hid (more_trans HM.out HMO.out), HG⟩
                              case measure => have := HLT.out; simp [intOf]; omega
                  · obtain rfl : j = ln := by omega
                    rw [List.drop_of_length_le (by rw [HLN.out]; exact Nat.le_refl _)] at HEQ
                    have HF := Lib.hid (HEQ.out.1 ⟨by simp [arOkb], fun a h => by simp at h⟩)
                    go_wp2_with fail
                    go_ret
                    exact ⟨by rw [HF.out]; rfl, HBW.out⟩
/-- The specification's certificate. -/
structure RefAt (w : World) (arr : Array Value) (c : Cert) (kv : Value) : Prop where
  q : arr[32]? = some (.string c.q)
  hor : arr[33]? = some (.int .i64 c.hor)
  k35 : arr[35]? = some kv
  uv : arr[36]? = some c.uv
  hv : arr[37]? = some c.hv
  wit : arr[38]? = some (.int .i64 c.wit)
  spl : arr[39]? = some (.int .i64 c.spl)
  keys : Row anyB w 4 (keysG c.S).length kv (flatC kC (keysG c.S))
  und : Row anyB w 4 c.U.length c.uv (flatC kC c.U)
  hol : Row anyB w 4 c.H.length c.hv (flatC hC c.H)
  each : ∀ p ∈ c.H, HAt anyB w p
  ulen : c.U.length ≤ 16
  hlen : c.H.length ≤ 16
  slen : c.S.length ≤ 96
  asize : arr.size = 40
  bys : ∃ bv, arr[34]? = some bv ∧ ByG w (encS (c.S.map (·.2))) bv
theorem hasG_keys (l : List GV) (k : K4) : hasG l k = true ↔ k ∈ keysG l := by
  unfold hasG keysG
  rw [List.any_eq_true]
  constructor
  · rintro ⟨x, hx, e⟩
    exact List.mem_map.2 ⟨x, hx, of_decide_eq_true e⟩
  · intro h
    obtain ⟨x, hx, e⟩ := List.mem_map.1 h
    exact ⟨x, hx, decide_eq_true e⟩
end Go.Proofs.Ytemeppfikpafbaa

