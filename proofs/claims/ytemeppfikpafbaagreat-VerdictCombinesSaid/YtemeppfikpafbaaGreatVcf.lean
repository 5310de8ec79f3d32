/- Texts FSyA, FSyB, FSym, laid together. -/
import Derived.Deep.RegionHeld3
import Derived.Deep.QuietTactic
import Derived.BigQuiet
import Derived.Deep.DeepCutAuto
import Derived.Test.YtemeppfikpafbaaGreatVce
/- slices.symMergeCmpFunc (135): two neighbouring ascending stretches become one, stably. -/
namespace Go.Proofs.YtemeppfikpafbaaGreat
open Go.RowKit Go.Sort
variable {CP : Nat} {V : Int × Int → Prop} {G : Int × Int → Fnd}
set_option maxHeartbeats 2000000 in
set_option maxRecDepth 100000 in
theorem sym_genA (n : Nat) (ih : SymSaid CP V G n) (X P Q Z : List (Int × Int)) (B off cap a m b N md : Nat) (w : World) (hn : b ≤ a + (n + 1)) (hX : X.length = a) (hP : a + P.length = m) (hQ : m + Q.length = b) (ham : a + 1 < m) (hmb : m + 1 < b) (hN : (X ++ P ++ Q ++ Z).length = N) (hsz : N < 4294967296) (hsP : Srt P) (hsQ : Srt Q) (hmd : ((a : Int) + b) / 2 = md) (hmm : md < m)
    (hH : HoldF CP V G w B off (X ++ P ++ Q ++ Z).toArray) :
    Calls Tryz.prog 85 #[.slice (some ⟨B, off, none⟩) N cap, .int .i64 a, .int .i64 m, .int .i64 b, .func (.func 33) #[] #[.pointer (some ⟨CP, 0, none⟩)]] w fun e w' => e = .returned (.tuple #[]) ∧ w.grownBy w' (some B) ∧ ∃ R, Merged P Q R ∧ HoldF CP V G w' B off (X ++ R ++ Z).toArray := by
  have HH := Lib.hid hH; clear hH
  have HS := Lib.hid (show (X ++ P ++ Q ++ Z).toArray.size = N by rw [List.size_toArray]; exact hN)
  have HF := Lib.hid (fun s e has hsm hme heb c1 c2 => sym_split X P Q Z a m b s e hX hP hQ has hsm hme heb c1 c2 hsP hsQ)
  obtain ⟨D, hD⟩ : ∃ D, X ++ P ++ Q ++ Z = D := ⟨_, rfl⟩
  have hbN : b ≤ N := by rw [← hN]; simp only [List.length_append]; omega
  have HD := Lib.hid (And.intro hD (And.intro hX (And.intro hP (And.intro hQ (And.intro hsP hsQ)))))
  rw [hD] at HH HS HF
  clear hD hN hX hP hQ hsP hsQ
  obtain ⟨g1, hg1⟩ : ∃ g : Nat, (m : Int) - (a : Int) = g := ⟨m - a, by omega⟩
  have hg1' : ((g1 : Int) == 1) = false := by simp; omega
  obtain ⟨g2, hg2⟩ : ∃ g : Nat, (b : Int) - (m : Int) = g := ⟨b - m, by omega⟩
  have hg2' : ((g2 : Int) == 1) = false := by simp; omega
  obtain ⟨nn, hnn⟩ : ∃ nn : Nat, (md : Int) + m = nn := ⟨md + m, by omega⟩
  obtain ⟨pp, hpp⟩ : ∃ pp : Nat, (nn : Int) - 1 = pp := ⟨nn - 1, by omega⟩
  have hB1 : md ≤ b := by omega
  have hB2 : nn ≤ 8589934592 := by omega
  go_enter Tryz.func85, Tryz.ntmps85
  obtain ⟨lo, hlo⟩ : ∃ lo : Nat, (nn : Int) - b = lo := ⟨nn - b, by omega⟩
  have HQ := Lib.hid (show a ≤ lo ∧ lo + b = nn ∧ md + m = nn ∧ pp + 1 = nn ∧ lo ≤ md ∧ md < m ∧ 2 * md ≤ a + b ∧ a + b ≤ 2 * md + 1 ∧ b ≤ a + (n + 1) ∧ a < md ∧ md < b ∧ a < m ∧ m < b by omega)
  have tm : decide (md < m) = true := by simpa using hmm
  go_wp2_with fail
  clear hlo hmd hnn hpp hg1 hg1' hg2 hg2' hn ham hmb hmm tm
  go_loopw [20, 21] (fun vi vj wr => ∃ i j : Nat, vi = .int .i64 i ∧ vj = .int .i64 j ∧ lo ≤ i ∧ i ≤ j ∧ j ≤ md ∧ Hid (w.grownBy wr (some B)) ∧ Hid (HoldF CP V G wr B off D.toArray) ∧ Hid ((i = lo ∨ D.toArray[i - 1]!.1 ≤ D.toArray[pp - (i - 1)]!.1) ∧ (j = md ∨ D.toArray[pp - j]!.1 < D.toArray[j]!.1))) (fun vi vj _ => (intOf vj).toNat - (intOf vi).toNat)
  case atStart => exact ⟨lo, md, by first | rfl | go_num, by first | rfl | go_num, Nat.le_refl _, by have := HQ.out; omega, Nat.le_refl _, Lib.hid (World.grownBy.refl _ _), HH, Lib.hid ⟨Or.inl rfl, Or.inl rfl⟩⟩
  case round =>
    obtain ⟨i, j, rfl, rfl, h1, h2, h3, HG, HK, HJ⟩ := hrel
    by_cases hlt : i < j
    · as_aux_lemma =>
      skip
      obtain ⟨c, hc⟩ : ∃ c : Nat, ((i : Int) + j) / 2 = c := ⟨(i + j) / 2, by omega⟩
      have hc1 : i ≤ c := by omega
      have hc2 : c < j := by omega
      obtain ⟨pc, hpc⟩ : ∃ pc : Nat, (pp : Int) - c = pc := ⟨pp - c, by have := HQ.out; omega⟩
      have HPC := Lib.hid (show pp - c = pc by omega)
      have hpb : pc < b := by have := HQ.out; omega
      have hcb : c < b := by have := HQ.out; omega
      have hwp : IntKind.i64.wrap ((pp : Int) - (c : Int)) = (pc : Int) := by rw [hpc, IntKind.wrap_i64]; omega
      have hwq : IntKind.i64.wrap (pc : Int) = (pc : Int) := by rw [IntKind.wrap_i64]; omega
      have c1 := HK.out.at pc (by rw [HS.out]; omega)
      have c2 := HK.out.at c (by rw [HS.out]; omega)
      have hv1 := HK.out.mem pc (by rw [HS.out]; omega)
      have hv2 := HK.out.mem c (by rw [HS.out]; omega)
      generalize hx : D.toArray[pc]! = x at *
      generalize hy : D.toArray[c]! = y at *
      have HXY := Lib.hid (And.intro hx hy)
      clear hx hy
      have HCM := Lib.hid (fun W (hW : More wr W) => HK.out.cmp x y W hv1 hv2 (grownBy_more (World.grownBy.refl _ _) hW))
      clear hv1 hv2
      obtain ⟨p0, p1, p2, f0, f1, f2⟩ := c1
      obtain ⟨q0, q1, q2, f3, f4, f5⟩ := c2
      have hBr : B < wr.heap.size := cell_lt p0
      have s0 : wr.drew.cell? ⟨B, off + pc * 3, none⟩ = some (.slice (G x).ua (G x).un (G x).uc) := p0
      have s1 : wr.drew.cell? ⟨B, off + pc * 3 + 1, none⟩ = some (.slice (G x).ha (G x).hn (G x).hc) := p1
      have s2 : wr.drew.cell? ⟨B, off + pc * 3 + 2, none⟩ = some (.int .i64 (G x).n) := p2
      have s3 : wr.drew.cell? ⟨B, off + c * 3, none⟩ = some (.slice (G y).ua (G y).un (G y).uc) := q0
      have s4 : wr.drew.cell? ⟨B, off + c * 3 + 1, none⟩ = some (.slice (G y).ha (G y).hn (G y).hc) := q1
      have s5 : wr.drew.cell? ⟨B, off + c * 3 + 2, none⟩ = some (.int .i64 (G y).n) := q2
      have z1 : (pc : Int) < (N : Int) := by omega
      have z2 : (c : Int) < (N : Int) := by omega
      clear f0 f1 f2 f3 f4 f5
      by_cases hk : x.1 < y.1
      · have t1 : decide (cmpI x.1 y.1 < 0) = true := by simp [cmpI_neg, hk]
        have HC := Lib.hid hk; clear hk
        go_wp2_with fail
        clear hc
        go_region_held3 (fun wx => wx.cell? ⟨B, off + pc * 3, none⟩ = some (.slice (G x).ua (G x).un (G x).uc) ∧ wx.cell? ⟨B, off + pc * 3 + 1, none⟩ = some (.slice (G x).ha (G x).hn (G x).hc) ∧ wx.cell? ⟨B, off + pc * 3 + 2, none⟩ = some (.int .i64 (G x).n) ∧ wx.cell? ⟨B, off + c * 3, none⟩ = some (.slice (G y).ua (G y).un (G y).uc) ∧ wx.cell? ⟨B, off + c * 3 + 1, none⟩ = some (.slice (G y).ha (G y).hn (G y).hc) ∧ wx.cell? ⟨B, off + c * 3 + 2, none⟩ = some (.int .i64 (G y).n)) (first | with_reducible exact ⟨s0, s1, s2, s3, s4, s5⟩ | with_reducible exact ⟨k0, k1, k2, k3, k4, k5⟩) (first | (go_at_call 33; refine (HCM.out _ (more_drew wr)).mono ?_; rintro e w1 ⟨rfl, hw1⟩; have k0 := hw1.cell s0; have k1 := hw1.cell s1; have k2 := hw1.cell s2; have k3 := hw1.cell s3; have k4 := hw1.cell s4; have k5 := hw1.cell s5))
        have HG2 := Lib.hid (grownBy_more (grownBy_more HG.out (more_drew wr)) hw1)
        have HN2 := Lib.hid (HK.out.more (more_trans (more_drew wr) hw1) hBr)
        clear hw1 p0 p1 p2 q0 q1 q2 s0 s1 s2 s3 s4 s5 k0 k1 k2 k3 k4 k5
        go_wp2_with fail
        go_roundw
        case rel => exact ⟨i, c, rfl, by go_num, by omega, by omega, by omega, HG2, HN2, Lib.hid ⟨HJ.out.1, Or.inr (by have hcc := HC.out; simp only [HPC.out, HXY.out.1, HXY.out.2]; omega)⟩⟩
        case measure => simp [intOf]; omega
      · have t1 : decide (cmpI x.1 y.1 < 0) = false := by simp [cmpI_neg, hk]
        have HC := Lib.hid hk; clear hk
        go_wp2_with fail
        clear hc
        go_region_held3 (fun wx => wx.cell? ⟨B, off + pc * 3, none⟩ = some (.slice (G x).ua (G x).un (G x).uc) ∧ wx.cell? ⟨B, off + pc * 3 + 1, none⟩ = some (.slice (G x).ha (G x).hn (G x).hc) ∧ wx.cell? ⟨B, off + pc * 3 + 2, none⟩ = some (.int .i64 (G x).n) ∧ wx.cell? ⟨B, off + c * 3, none⟩ = some (.slice (G y).ua (G y).un (G y).uc) ∧ wx.cell? ⟨B, off + c * 3 + 1, none⟩ = some (.slice (G y).ha (G y).hn (G y).hc) ∧ wx.cell? ⟨B, off + c * 3 + 2, none⟩ = some (.int .i64 (G y).n)) (first | with_reducible exact ⟨s0, s1, s2, s3, s4, s5⟩ | with_reducible exact ⟨k0, k1, k2, k3, k4, k5⟩) (first | (go_at_call 33; refine (HCM.out _ (more_drew wr)).mono ?_; rintro e w1 ⟨rfl, hw1⟩; have k0 := hw1.cell s0; have k1 := hw1.cell s1; have k2 := hw1.cell s2; have k3 := hw1.cell s3; have k4 := hw1.cell s4; have k5 := hw1.cell s5))
        have HG2 := Lib.hid (grownBy_more (grownBy_more HG.out (more_drew wr)) hw1)
        have HN2 := Lib.hid (HK.out.more (more_trans (more_drew wr) hw1) hBr)
        clear hw1 p0 p1 p2 q0 q1 q2 s0 s1 s2 s3 s4 s5 k0 k1 k2 k3 k4 k5
        go_wp2_with fail
        go_roundw
        case rel => exact ⟨c + 1, j, by go_num, rfl, by omega, by omega, by omega, HG2, HN2, Lib.hid ⟨Or.inr (by have hcc := HC.out; simp only [Nat.add_sub_cancel, HPC.out, HXY.out.1, HXY.out.2]; omega), HJ.out.2⟩⟩
        case measure => simp [intOf]; omega
    · obtain rfl : j = i := by omega
      obtain ⟨en, hen⟩ : ∃ en : Nat, (nn : Int) - j = en := ⟨nn - j, by have := HQ.out; omega⟩
      have HE := Lib.hid (show a ≤ j ∧ j ≤ m ∧ m ≤ en ∧ en ≤ b ∧ j + en = md + m ∧ j ≤ md by have := HQ.out; omega)
      obtain ⟨P1, P2, Q1, Q2, eP, eQ, l1, l2, g1, g2⟩ := HF.out j en HE.out.1 HE.out.2.1 HE.out.2.2.1 HE.out.2.2.2.1 (by
        rcases HJ.out.1 with c | c
        · right; left; have := HQ.out; omega
        · by_cases h0 : j = lo
          · right; left; have := HQ.out; omega
          · right; right
            rw [show en = pp - (j - 1) by have := HQ.out; have := HE.out; omega]; exact c) (by
        rcases HJ.out.2 with c | c
        · right; left; have := HQ.out; omega
        · right; right
          rw [show en - 1 = pp - j by have := HQ.out; have := HE.out; omega]; exact c)
      subst eP eQ
      have HL := Lib.hid (And.intro l1 (And.intro l2 (And.intro g1 g2)))
      have HK0 := Lib.hid (show HoldF CP V G wr B off (X ++ P1 ++ P2 ++ Q1 ++ (Q2 ++ Z)).toArray by
        have := HK.out
        rw [← HD.out.1] at this
        simpa using this)
      clear l1 l2 g1 g2 HK HF HJ hlt h1 h2 h3
      obtain ⟨wo, rfl⟩ : ∃ wo : World, wo = wr := ⟨_, rfl⟩
      have hjb : j ≤ b := by have := HE.out; omega
      have heb : en ≤ b := by have := HE.out; omega
      go_upto_region 39 with (fail)
      go_cut [185] (fun s wx => s = .bool (decide (j < m ∧ m < en)) ∧ wx = wo)
      case first => as_aux_lemma =>
        by_cases ha : j < m
        · have ta : decide (j < m) = true := by simpa using ha
          go_wp2_with fail
          go_meet
          case rel => exact ⟨by simp [ha], rfl⟩
        · have ta : decide (j < m) = false := by simpa using ha
          go_wp2_with fail
          go_meet
          case rel => exact ⟨by simp [ha], rfl⟩
      case rest => as_aux_lemma =>
        obtain ⟨rfl, rfl⟩ := hcut
        generalize hBr : decide (j < m ∧ m < en) = Br
        have HBr := Lib.hid hBr; clear hBr
        go_upto_if 185 with (fail)
        go_cut [] (fun wx => Hid (w.grownBy wx (some B)) ∧ Hid (HoldF CP V G wx B off (X ++ P1 ++ Q1 ++ (P2 ++ Q2 ++ Z)).toArray))
        case first => as_aux_lemma =>
          cases Br with
          | true =>
            have HC := Lib.hid (rot_any (X ++ P1) P2 Q1 (Q2 ++ Z) B off cap j m en N (.func (.func 33) #[] #[.pointer (some ⟨CP, 0, none⟩)]) wc (by rw [List.length_append]; have := HL.out.1; have := HD.out.2.1; omega) (by have := HL.out.1; have := HD.out.2.2.1; simp only [List.length_append] at this; omega) HL.out.2.1 (of_decide_eq_true HBr.out).1 (of_decide_eq_true HBr.out).2 (by have := HS.out; rw [← HD.out.1, List.size_toArray] at this; rw [← this]; simp) hsz HK0.out)
            go_wp2_with fail
            refine HC.out.mono ?_
            rintro e w1 ⟨rfl, hg1, hh1⟩
            have HG1 := Lib.hid (grownBy_trans HG.out hg1)
            have HH1 := Lib.hid (show HoldF CP V G w1 B off (X ++ P1 ++ Q1 ++ (P2 ++ Q2 ++ Z)).toArray by simpa using hh1)
            clear hg1 hh1
            go_wp2_with fail
            go_meet
            case rel => exact ⟨HG1, HH1⟩
          | false =>
            have HH1 := Lib.hid (show HoldF CP V G wc B off (X ++ P1 ++ Q1 ++ (P2 ++ Q2 ++ Z)).toArray by
              have h := of_decide_eq_false HBr.out
              have h4 := HL.out.1
              have h5 := HL.out.2.1
              have h6 := HD.out.2.2.1
              have h7 := HE.out
              rw [List.length_append] at h6
              have h8 : P2.length = 0 ∨ Q1.length = 0 := by omega
              have := HK0.out
              rcases h8 with h8 | h8
              · rw [List.eq_nil_of_length_eq_zero h8] at this ⊢; simpa using this
              · rw [List.eq_nil_of_length_eq_zero h8] at this ⊢; simpa using this)
            go_wp2_with fail
            go_meet
            case rel => exact ⟨HG, HH1⟩
        case rest => as_aux_lemma =>
          obtain ⟨HG1, HH1⟩ := hcut
          clear HK0 HG HBr
          obtain ⟨w5, rfl⟩ : ∃ w5 : World, w5 = wc := ⟨_, rfl⟩
          go_upto_region 41 with (fail)
          go_cut [199] (fun s wx => s = .bool (decide (a < j ∧ j < md)) ∧ wx = w5)
          case first => as_aux_lemma =>
            by_cases ha : a < j
            · have ta : decide (a < j) = true := by simpa using ha
              go_wp2_with fail
              go_meet
              case rel => exact ⟨by simp [ha], rfl⟩
            · have ta : decide (a < j) = false := by simpa using ha
              go_wp2_with fail
              go_meet
              case rel => exact ⟨by simp [ha], rfl⟩
          case rest => as_aux_lemma =>
            obtain ⟨rfl, rfl⟩ := hcut
            generalize hBr : decide (a < j ∧ j < md) = Br
            have HBr := Lib.hid hBr; clear hBr
            go_upto_if 199 with (fail)
            go_cut [] (fun wx => ∃ R1, Hid (Merged P1 Q1 R1) ∧ Hid (w.grownBy wx (some B)) ∧ Hid (HoldF CP V G wx B off (X ++ R1 ++ (P2 ++ Q2 ++ Z)).toArray))
            case first => as_aux_lemma =>
              cases Br with
              | true =>
                have HC := Lib.hid (ih X P1 Q1 (P2 ++ Q2 ++ Z) B off cap a j md N wc (by have := HQ.out; omega) HD.out.2.1 HL.out.1 (by have := HL.out.2.1; have := HE.out; omega) (of_decide_eq_true HBr.out).1 (of_decide_eq_true HBr.out).2 (by have := HS.out; rw [← HD.out.1, List.size_toArray] at this; rw [← this]; simp only [List.length_append]; omega) hsz (List.pairwise_append.1 HD.out.2.2.2.2.1).1 (List.pairwise_append.1 HD.out.2.2.2.2.2).1 HH1.out)
                go_wp2_with fail
                refine HC.out.mono ?_
                rintro e w1 ⟨rfl, hg1, R1, hm1, hh1⟩
                have HG2 := Lib.hid (grownBy_trans HG1.out hg1)
                have HH2 := Lib.hid hh1
                have HM1 := Lib.hid hm1
                clear hg1 hh1 hm1
                go_wp2_with fail
                go_meet
                case rel => exact ⟨R1, HM1, HG2, HH2⟩
              | false =>
                have HM1 := Lib.hid (show Merged P1 Q1 (P1 ++ Q1) by
                  have h := of_decide_eq_false HBr.out
                  have h4 := HL.out.1
                  have h5 := HL.out.2.1
                  have h7 := HE.out
                  have h8 : P1.length = 0 ∨ Q1.length = 0 := by omega
                  rcases h8 with h8 | h8
                  · rw [List.eq_nil_of_length_eq_zero h8]; exact Merged.nilL (List.pairwise_append.1 HD.out.2.2.2.2.2).1
                  · rw [List.eq_nil_of_length_eq_zero h8, List.append_nil]; exact Merged.nilR (List.pairwise_append.1 HD.out.2.2.2.2.1).1)
                go_wp2_with fail
                go_meet
                case rel => exact ⟨P1 ++ Q1, HM1, HG1, Lib.hid (by have := HH1.out; simpa using this)⟩
            case rest => as_aux_lemma =>
              obtain ⟨R1, HM1, HG2, HH2⟩ := hcut
              clear HG1 HH1 HBr
              obtain ⟨w6, rfl⟩ : ∃ w6 : World, w6 = wc := ⟨_, rfl⟩
              go_upto_region 43 with (fail)
              go_cut [213] (fun s wx => s = .bool (decide (md < en ∧ en < b)) ∧ wx = w6)
              case first => as_aux_lemma =>
                by_cases ha : md < en
                · have ta : decide (md < en) = true := by simpa using ha
                  go_wp2_with fail
                  go_meet
                  case rel => exact ⟨by simp [ha], rfl⟩
                · have ta : decide (md < en) = false := by simpa using ha
                  go_wp2_with fail
                  go_meet
                  case rel => exact ⟨by simp [ha], rfl⟩
              case rest => as_aux_lemma =>
                obtain ⟨rfl, rfl⟩ := hcut
                generalize hBr : decide (md < en ∧ en < b) = Br
                have HBr := Lib.hid hBr; clear hBr
                have HJN := Lib.hid (fun R2 (h2 : Merged P2 Q2 R2) => Merged.join HM1.out h2 HD.out.2.2.2.2.1 HD.out.2.2.2.2.2 HL.out.2.2.1 HL.out.2.2.2)
                cases Br with
                | true =>
                  have HC := Lib.hid (ih (X ++ R1) P2 Q2 Z B off cap md en b N wc (by have := HQ.out; omega) (by have := HL.out; have := HE.out; have := HM1.out.len; have := HD.out.2.1; rw [List.length_append]; omega) (by have := HL.out.1; have := HE.out; have := HD.out.2.2.1; rw [List.length_append] at this; omega) (by have := HL.out.2.1; have := HD.out.2.2.2.1; rw [List.length_append] at this; omega) (of_decide_eq_true HBr.out).1 (of_decide_eq_true HBr.out).2 (by have := HS.out; rw [← HD.out.1, List.size_toArray] at this; rw [← this]; have := HM1.out.len; simp only [List.length_append]; omega) hsz (List.pairwise_append.1 HD.out.2.2.2.2.1).2.1 (List.pairwise_append.1 HD.out.2.2.2.2.2).2.1 (by have := HH2.out; simpa using this))
                  go_wp2_with fail
                  refine HC.out.mono ?_
                  rintro e w1 ⟨rfl, hg1, R2, hm2, hh1⟩
                  have HG3 := Lib.hid (grownBy_trans HG2.out hg1)
                  have HH3 := Lib.hid (show HoldF CP V G w1 B off (X ++ (R1 ++ R2) ++ Z).toArray by simpa using hh1)
                  have HM2 := Lib.hid (HJN.out R2 hm2)
                  clear hg1 hh1 hm2
                  go_wp2_with fail
                  go_end0
                  exact ⟨rfl, HG3.out, _, HM2.out, HH3.out⟩
                | false =>
                  have HM2 := Lib.hid (show Merged P2 Q2 (P2 ++ Q2) by
                    have h := of_decide_eq_false HBr.out
                    have h4 := HL.out.1
                    have h5 := HL.out.2.1
                    have h6 := HD.out.2.2.1
                    have h9 := HD.out.2.2.2.1
                    have h7 := HE.out
                    rw [List.length_append] at h6 h9
                    have h8 : P2.length = 0 ∨ Q2.length = 0 := by omega
                    rcases h8 with h8 | h8
                    · rw [List.eq_nil_of_length_eq_zero h8]; exact Merged.nilL (List.pairwise_append.1 HD.out.2.2.2.2.2).2.1
                    · rw [List.eq_nil_of_length_eq_zero h8, List.append_nil]; exact Merged.nilR (List.pairwise_append.1 HD.out.2.2.2.2.1).2.1)
                  go_wp2_with fail
                  go_end0
                  exact ⟨rfl, HG2.out, _, HJN.out _ HM2.out, by have := HH2.out; simpa using this⟩
end Go.Proofs.YtemeppfikpafbaaGreat

/- slices.symMergeCmpFunc (135): two neighbouring ascending stretches become one, stably. -/
namespace Go.Proofs.YtemeppfikpafbaaGreat
open Go.RowKit Go.Sort
variable {CP : Nat} {V : Int × Int → Prop} {G : Int × Int → Fnd}
set_option maxHeartbeats 2000000 in
set_option maxRecDepth 100000 in
theorem sym_genB (n : Nat) (ih : SymSaid CP V G n) (X P Q Z : List (Int × Int)) (B off cap a m b N md : Nat) (w : World) (hn : b ≤ a + (n + 1)) (hX : X.length = a) (hP : a + P.length = m) (hQ : m + Q.length = b) (ham : a + 1 < m) (hmb : m + 1 < b) (hN : (X ++ P ++ Q ++ Z).length = N) (hsz : N < 4294967296) (hsP : Srt P) (hsQ : Srt Q) (hmd : ((a : Int) + b) / 2 = md) (hmm : ¬ md < m)
    (hH : HoldF CP V G w B off (X ++ P ++ Q ++ Z).toArray) :
    Calls Tryz.prog 85 #[.slice (some ⟨B, off, none⟩) N cap, .int .i64 a, .int .i64 m, .int .i64 b, .func (.func 33) #[] #[.pointer (some ⟨CP, 0, none⟩)]] w fun e w' => e = .returned (.tuple #[]) ∧ w.grownBy w' (some B) ∧ ∃ R, Merged P Q R ∧ HoldF CP V G w' B off (X ++ R ++ Z).toArray := by
  have HH := Lib.hid hH; clear hH
  have HS := Lib.hid (show (X ++ P ++ Q ++ Z).toArray.size = N by rw [List.size_toArray]; exact hN)
  have HF := Lib.hid (fun s e has hsm hme heb c1 c2 => sym_split X P Q Z a m b s e hX hP hQ has hsm hme heb c1 c2 hsP hsQ)
  obtain ⟨D, hD⟩ : ∃ D, X ++ P ++ Q ++ Z = D := ⟨_, rfl⟩
  have hbN : b ≤ N := by rw [← hN]; simp only [List.length_append]; omega
  have HD := Lib.hid (And.intro hD (And.intro hX (And.intro hP (And.intro hQ (And.intro hsP hsQ)))))
  rw [hD] at HH HS HF
  clear hD hN hX hP hQ hsP hsQ
  obtain ⟨g1, hg1⟩ : ∃ g : Nat, (m : Int) - (a : Int) = g := ⟨m - a, by omega⟩
  have hg1' : ((g1 : Int) == 1) = false := by simp; omega
  obtain ⟨g2, hg2⟩ : ∃ g : Nat, (b : Int) - (m : Int) = g := ⟨b - m, by omega⟩
  have hg2' : ((g2 : Int) == 1) = false := by simp; omega
  obtain ⟨nn, hnn⟩ : ∃ nn : Nat, (md : Int) + m = nn := ⟨md + m, by omega⟩
  obtain ⟨pp, hpp⟩ : ∃ pp : Nat, (nn : Int) - 1 = pp := ⟨nn - 1, by omega⟩
  have hB1 : md ≤ b := by omega
  have hB2 : nn ≤ 8589934592 := by omega
  go_enter Tryz.func85, Tryz.ntmps85
  have HQ := Lib.hid (show md + m = nn ∧ pp + 1 = nn ∧ a ≤ m ∧ m ≤ md ∧ 2 * md ≤ a + b ∧ a + b ≤ 2 * md + 1 ∧ b ≤ a + (n + 1) ∧ a < md ∧ md < b ∧ a < m ∧ m < b by omega)
  have tm : decide (md < m) = false := by simpa using hmm
  go_wp2_with fail
  clear hmd hnn hpp hg1 hg1' hg2 hg2' hn ham hmb hmm tm
  go_loopw [20, 21] (fun vi vj wr => ∃ i j : Nat, vi = .int .i64 i ∧ vj = .int .i64 j ∧ a ≤ i ∧ i ≤ j ∧ j ≤ m ∧ Hid (w.grownBy wr (some B)) ∧ Hid (HoldF CP V G wr B off D.toArray) ∧ Hid ((i = a ∨ D.toArray[i - 1]!.1 ≤ D.toArray[pp - (i - 1)]!.1) ∧ (j = m ∨ D.toArray[pp - j]!.1 < D.toArray[j]!.1))) (fun vi vj _ => (intOf vj).toNat - (intOf vi).toNat)
  case atStart => exact ⟨a, m, by first | rfl | go_num, by first | rfl | go_num, Nat.le_refl _, by have := HQ.out; omega, Nat.le_refl _, Lib.hid (World.grownBy.refl _ _), HH, Lib.hid ⟨Or.inl rfl, Or.inl rfl⟩⟩
  case round =>
    obtain ⟨i, j, rfl, rfl, h1, h2, h3, HG, HK, HJ⟩ := hrel
    by_cases hlt : i < j
    · as_aux_lemma =>
      skip
      obtain ⟨c, hc⟩ : ∃ c : Nat, ((i : Int) + j) / 2 = c := ⟨(i + j) / 2, by omega⟩
      have hc1 : i ≤ c := by omega
      have hc2 : c < j := by omega
      obtain ⟨pc, hpc⟩ : ∃ pc : Nat, (pp : Int) - c = pc := ⟨pp - c, by have := HQ.out; omega⟩
      have HPC := Lib.hid (show pp - c = pc by omega)
      have hpb : pc < b := by have := HQ.out; omega
      have hcb : c < b := by have := HQ.out; omega
      have hwp : IntKind.i64.wrap ((pp : Int) - (c : Int)) = (pc : Int) := by rw [hpc, IntKind.wrap_i64]; omega
      have hwq : IntKind.i64.wrap (pc : Int) = (pc : Int) := by rw [IntKind.wrap_i64]; omega
      have c1 := HK.out.at pc (by rw [HS.out]; omega)
      have c2 := HK.out.at c (by rw [HS.out]; omega)
      have hv1 := HK.out.mem pc (by rw [HS.out]; omega)
      have hv2 := HK.out.mem c (by rw [HS.out]; omega)
      generalize hx : D.toArray[pc]! = x at *
      generalize hy : D.toArray[c]! = y at *
      have HXY := Lib.hid (And.intro hx hy)
      clear hx hy
      have HCM := Lib.hid (fun W (hW : More wr W) => HK.out.cmp x y W hv1 hv2 (grownBy_more (World.grownBy.refl _ _) hW))
      clear hv1 hv2
      obtain ⟨p0, p1, p2, f0, f1, f2⟩ := c1
      obtain ⟨q0, q1, q2, f3, f4, f5⟩ := c2
      have hBr : B < wr.heap.size := cell_lt p0
      have s0 : wr.drew.cell? ⟨B, off + pc * 3, none⟩ = some (.slice (G x).ua (G x).un (G x).uc) := p0
      have s1 : wr.drew.cell? ⟨B, off + pc * 3 + 1, none⟩ = some (.slice (G x).ha (G x).hn (G x).hc) := p1
      have s2 : wr.drew.cell? ⟨B, off + pc * 3 + 2, none⟩ = some (.int .i64 (G x).n) := p2
      have s3 : wr.drew.cell? ⟨B, off + c * 3, none⟩ = some (.slice (G y).ua (G y).un (G y).uc) := q0
      have s4 : wr.drew.cell? ⟨B, off + c * 3 + 1, none⟩ = some (.slice (G y).ha (G y).hn (G y).hc) := q1
      have s5 : wr.drew.cell? ⟨B, off + c * 3 + 2, none⟩ = some (.int .i64 (G y).n) := q2
      have z1 : (pc : Int) < (N : Int) := by omega
      have z2 : (c : Int) < (N : Int) := by omega
      clear f0 f1 f2 f3 f4 f5
      by_cases hk : x.1 < y.1
      · have t1 : decide (cmpI x.1 y.1 < 0) = true := by simp [cmpI_neg, hk]
        have HC := Lib.hid hk; clear hk
        go_wp2_with fail
        clear hc
        go_region_held3 (fun wx => wx.cell? ⟨B, off + pc * 3, none⟩ = some (.slice (G x).ua (G x).un (G x).uc) ∧ wx.cell? ⟨B, off + pc * 3 + 1, none⟩ = some (.slice (G x).ha (G x).hn (G x).hc) ∧ wx.cell? ⟨B, off + pc * 3 + 2, none⟩ = some (.int .i64 (G x).n) ∧ wx.cell? ⟨B, off + c * 3, none⟩ = some (.slice (G y).ua (G y).un (G y).uc) ∧ wx.cell? ⟨B, off + c * 3 + 1, none⟩ = some (.slice (G y).ha (G y).hn (G y).hc) ∧ wx.cell? ⟨B, off + c * 3 + 2, none⟩ = some (.int .i64 (G y).n)) (first | with_reducible exact ⟨s0, s1, s2, s3, s4, s5⟩ | with_reducible exact ⟨k0, k1, k2, k3, k4, k5⟩) (first | (go_at_call 33; refine (HCM.out _ (more_drew wr)).mono ?_; rintro e w1 ⟨rfl, hw1⟩; have k0 := hw1.cell s0; have k1 := hw1.cell s1; have k2 := hw1.cell s2; have k3 := hw1.cell s3; have k4 := hw1.cell s4; have k5 := hw1.cell s5))
        have HG2 := Lib.hid (grownBy_more (grownBy_more HG.out (more_drew wr)) hw1)
        have HN2 := Lib.hid (HK.out.more (more_trans (more_drew wr) hw1) hBr)
        clear hw1 p0 p1 p2 q0 q1 q2 s0 s1 s2 s3 s4 s5 k0 k1 k2 k3 k4 k5
        go_wp2_with fail
        go_roundw
        case rel => exact ⟨i, c, rfl, by go_num, by omega, by omega, by omega, HG2, HN2, Lib.hid ⟨HJ.out.1, Or.inr (by have hcc := HC.out; simp only [HPC.out, HXY.out.1, HXY.out.2]; omega)⟩⟩
        case measure => simp [intOf]; omega
      · have t1 : decide (cmpI x.1 y.1 < 0) = false := by simp [cmpI_neg, hk]
        have HC := Lib.hid hk; clear hk
        go_wp2_with fail
        clear hc
        go_region_held3 (fun wx => wx.cell? ⟨B, off + pc * 3, none⟩ = some (.slice (G x).ua (G x).un (G x).uc) ∧ wx.cell? ⟨B, off + pc * 3 + 1, none⟩ = some (.slice (G x).ha (G x).hn (G x).hc) ∧ wx.cell? ⟨B, off + pc * 3 + 2, none⟩ = some (.int .i64 (G x).n) ∧ wx.cell? ⟨B, off + c * 3, none⟩ = some (.slice (G y).ua (G y).un (G y).uc) ∧ wx.cell? ⟨B, off + c * 3 + 1, none⟩ = some (.slice (G y).ha (G y).hn (G y).hc) ∧ wx.cell? ⟨B, off + c * 3 + 2, none⟩ = some (.int .i64 (G y).n)) (first | with_reducible exact ⟨s0, s1, s2, s3, s4, s5⟩ | with_reducible exact ⟨k0, k1, k2, k3, k4, k5⟩) (first | (go_at_call 33; refine (HCM.out _ (more_drew wr)).mono ?_; rintro e w1 ⟨rfl, hw1⟩; have k0 := hw1.cell s0; have k1 := hw1.cell s1; have k2 := hw1.cell s2; have k3 := hw1.cell s3; have k4 := hw1.cell s4; have k5 := hw1.cell s5))
        have HG2 := Lib.hid (grownBy_more (grownBy_more HG.out (more_drew wr)) hw1)
        have HN2 := Lib.hid (HK.out.more (more_trans (more_drew wr) hw1) hBr)
        clear hw1 p0 p1 p2 q0 q1 q2 s0 s1 s2 s3 s4 s5 k0 k1 k2 k3 k4 k5
        go_wp2_with fail
        go_roundw
        case rel => exact ⟨c + 1, j, by go_num, rfl, by omega, by omega, by omega, HG2, HN2, Lib.hid ⟨Or.inr (by have hcc := HC.out; simp only [Nat.add_sub_cancel, HPC.out, HXY.out.1, HXY.out.2]; omega), HJ.out.2⟩⟩
        case measure => simp [intOf]; omega
    · obtain rfl : j = i := by omega
      obtain ⟨en, hen⟩ : ∃ en : Nat, (nn : Int) - j = en := ⟨nn - j, by have := HQ.out; omega⟩
      have HE := Lib.hid (show a ≤ j ∧ j ≤ m ∧ m ≤ en ∧ en ≤ b ∧ j + en = md + m ∧ j ≤ md by have := HQ.out; omega)
      obtain ⟨P1, P2, Q1, Q2, eP, eQ, l1, l2, g1, g2⟩ := HF.out j en HE.out.1 HE.out.2.1 HE.out.2.2.1 HE.out.2.2.2.1 (by
        rcases HJ.out.1 with c | c
        · left; exact c
        · by_cases h0 : j = a
          · left; exact h0
          · right; right
            rw [show en = pp - (j - 1) by have := HQ.out; have := HE.out; omega]; exact c) (by
        rcases HJ.out.2 with c | c
        · left; exact c
        · right; right
          rw [show en - 1 = pp - j by have := HQ.out; have := HE.out; omega]; exact c)
      subst eP eQ
      have HL := Lib.hid (And.intro l1 (And.intro l2 (And.intro g1 g2)))
      have HK0 := Lib.hid (show HoldF CP V G wr B off (X ++ P1 ++ P2 ++ Q1 ++ (Q2 ++ Z)).toArray by
        have := HK.out
        rw [← HD.out.1] at this
        simpa using this)
      clear l1 l2 g1 g2 HK HF HJ hlt h1 h2 h3
      obtain ⟨wo, rfl⟩ : ∃ wo : World, wo = wr := ⟨_, rfl⟩
      have hjb : j ≤ b := by have := HE.out; omega
      have heb : en ≤ b := by have := HE.out; omega
      go_upto_region 39 with (fail)
      go_cut [185] (fun s wx => s = .bool (decide (j < m ∧ m < en)) ∧ wx = wo)
      case first => as_aux_lemma =>
        by_cases ha : j < m
        · have ta : decide (j < m) = true := by simpa using ha
          go_wp2_with fail
          go_meet
          case rel => exact ⟨by simp [ha], rfl⟩
        · have ta : decide (j < m) = false := by simpa using ha
          go_wp2_with fail
          go_meet
          case rel => exact ⟨by simp [ha], rfl⟩
      case rest => as_aux_lemma =>
        obtain ⟨rfl, rfl⟩ := hcut
        generalize hBr : decide (j < m ∧ m < en) = Br
        have HBr := Lib.hid hBr; clear hBr
        go_upto_if 185 with (fail)
        go_cut [] (fun wx => Hid (w.grownBy wx (some B)) ∧ Hid (HoldF CP V G wx B off (X ++ P1 ++ Q1 ++ (P2 ++ Q2 ++ Z)).toArray))
        case first => as_aux_lemma =>
          cases Br with
          | true =>
            have HC := Lib.hid (rot_any (X ++ P1) P2 Q1 (Q2 ++ Z) B off cap j m en N (.func (.func 33) #[] #[.pointer (some ⟨CP, 0, none⟩)]) wc (by rw [List.length_append]; have := HL.out.1; have := HD.out.2.1; omega) (by have := HL.out.1; have := HD.out.2.2.1; simp only [List.length_append] at this; omega) HL.out.2.1 (of_decide_eq_true HBr.out).1 (of_decide_eq_true HBr.out).2 (by have := HS.out; rw [← HD.out.1, List.size_toArray] at this; rw [← this]; simp) hsz HK0.out)
            go_wp2_with fail
            refine HC.out.mono ?_
            rintro e w1 ⟨rfl, hg1, hh1⟩
            have HG1 := Lib.hid (grownBy_trans HG.out hg1)
            have HH1 := Lib.hid (show HoldF CP V G w1 B off (X ++ P1 ++ Q1 ++ (P2 ++ Q2 ++ Z)).toArray by simpa using hh1)
            clear hg1 hh1
            go_wp2_with fail
            go_meet
            case rel => exact ⟨HG1, HH1⟩
          | false =>
            have HH1 := Lib.hid (show HoldF CP V G wc B off (X ++ P1 ++ Q1 ++ (P2 ++ Q2 ++ Z)).toArray by
              have h := of_decide_eq_false HBr.out
              have h4 := HL.out.1
              have h5 := HL.out.2.1
              have h6 := HD.out.2.2.1
              have h7 := HE.out
              rw [List.length_append] at h6
              have h8 : P2.length = 0 ∨ Q1.length = 0 := by omega
              have := HK0.out
              rcases h8 with h8 | h8
              · rw [List.eq_nil_of_length_eq_zero h8] at this ⊢; simpa using this
              · rw [List.eq_nil_of_length_eq_zero h8] at this ⊢; simpa using this)
            go_wp2_with fail
            go_meet
            case rel => exact ⟨HG, HH1⟩
        case rest => as_aux_lemma =>
          obtain ⟨HG1, HH1⟩ := hcut
          clear HK0 HG HBr
          obtain ⟨w5, rfl⟩ : ∃ w5 : World, w5 = wc := ⟨_, rfl⟩
          go_upto_region 41 with (fail)
          go_cut [199] (fun s wx => s = .bool (decide (a < j ∧ j < md)) ∧ wx = w5)
          case first => as_aux_lemma =>
            by_cases ha : a < j
            · have ta : decide (a < j) = true := by simpa using ha
              go_wp2_with fail
              go_meet
              case rel => exact ⟨by simp [ha], rfl⟩
            · have ta : decide (a < j) = false := by simpa using ha
              go_wp2_with fail
              go_meet
              case rel => exact ⟨by simp [ha], rfl⟩
          case rest => as_aux_lemma =>
            obtain ⟨rfl, rfl⟩ := hcut
            generalize hBr : decide (a < j ∧ j < md) = Br
            have HBr := Lib.hid hBr; clear hBr
            go_upto_if 199 with (fail)
            go_cut [] (fun wx => ∃ R1, Hid (Merged P1 Q1 R1) ∧ Hid (w.grownBy wx (some B)) ∧ Hid (HoldF CP V G wx B off (X ++ R1 ++ (P2 ++ Q2 ++ Z)).toArray))
            case first => as_aux_lemma =>
              cases Br with
              | true =>
                have HC := Lib.hid (ih X P1 Q1 (P2 ++ Q2 ++ Z) B off cap a j md N wc (by have := HQ.out; omega) HD.out.2.1 HL.out.1 (by have := HL.out.2.1; have := HE.out; omega) (of_decide_eq_true HBr.out).1 (of_decide_eq_true HBr.out).2 (by have := HS.out; rw [← HD.out.1, List.size_toArray] at this; rw [← this]; simp only [List.length_append]; omega) hsz (List.pairwise_append.1 HD.out.2.2.2.2.1).1 (List.pairwise_append.1 HD.out.2.2.2.2.2).1 HH1.out)
                go_wp2_with fail
                refine HC.out.mono ?_
                rintro e w1 ⟨rfl, hg1, R1, hm1, hh1⟩
                have HG2 := Lib.hid (grownBy_trans HG1.out hg1)
                have HH2 := Lib.hid hh1
                have HM1 := Lib.hid hm1
                clear hg1 hh1 hm1
                go_wp2_with fail
                go_meet
                case rel => exact ⟨R1, HM1, HG2, HH2⟩
              | false =>
                have HM1 := Lib.hid (show Merged P1 Q1 (P1 ++ Q1) by
                  have h := of_decide_eq_false HBr.out
                  have h4 := HL.out.1
                  have h5 := HL.out.2.1
                  have h7 := HE.out
                  have h8 : P1.length = 0 ∨ Q1.length = 0 := by omega
                  rcases h8 with h8 | h8
                  · rw [List.eq_nil_of_length_eq_zero h8]; exact Merged.nilL (List.pairwise_append.1 HD.out.2.2.2.2.2).1
                  · rw [List.eq_nil_of_length_eq_zero h8, List.append_nil]; exact Merged.nilR (List.pairwise_append.1 HD.out.2.2.2.2.1).1)
                go_wp2_with fail
                go_meet
                case rel => exact ⟨P1 ++ Q1, HM1, HG1, Lib.hid (by have := HH1.out; simpa using this)⟩
            case rest => as_aux_lemma =>
              obtain ⟨R1, HM1, HG2, HH2⟩ := hcut
              clear HG1 HH1 HBr
              obtain ⟨w6, rfl⟩ : ∃ w6 : World, w6 = wc := ⟨_, rfl⟩
              go_upto_region 43 with (fail)
              go_cut [213] (fun s wx => s = .bool (decide (md < en ∧ en < b)) ∧ wx = w6)
              case first => as_aux_lemma =>
                by_cases ha : md < en
                · have ta : decide (md < en) = true := by simpa using ha
                  go_wp2_with fail
                  go_meet
                  case rel => exact ⟨by simp [ha], rfl⟩
                · have ta : decide (md < en) = false := by simpa using ha
                  go_wp2_with fail
                  go_meet
                  case rel => exact ⟨by simp [ha], rfl⟩
              case rest => as_aux_lemma =>
                obtain ⟨rfl, rfl⟩ := hcut
                generalize hBr : decide (md < en ∧ en < b) = Br
                have HBr := Lib.hid hBr; clear hBr
                have HJN := Lib.hid (fun R2 (h2 : Merged P2 Q2 R2) => Merged.join HM1.out h2 HD.out.2.2.2.2.1 HD.out.2.2.2.2.2 HL.out.2.2.1 HL.out.2.2.2)
                cases Br with
                | true =>
                  have HC := Lib.hid (ih (X ++ R1) P2 Q2 Z B off cap md en b N wc (by have := HQ.out; omega) (by have := HL.out; have := HE.out; have := HM1.out.len; have := HD.out.2.1; rw [List.length_append]; omega) (by have := HL.out.1; have := HE.out; have := HD.out.2.2.1; rw [List.length_append] at this; omega) (by have := HL.out.2.1; have := HD.out.2.2.2.1; rw [List.length_append] at this; omega) (of_decide_eq_true HBr.out).1 (of_decide_eq_true HBr.out).2 (by have := HS.out; rw [← HD.out.1, List.size_toArray] at this; rw [← this]; have := HM1.out.len; simp only [List.length_append]; omega) hsz (List.pairwise_append.1 HD.out.2.2.2.2.1).2.1 (List.pairwise_append.1 HD.out.2.2.2.2.2).2.1 (by have := HH2.out; simpa using this))
                  go_wp2_with fail
                  refine HC.out.mono ?_
                  rintro e w1 ⟨rfl, hg1, R2, hm2, hh1⟩
                  have HG3 := Lib.hid (grownBy_trans HG2.out hg1)
                  have HH3 := Lib.hid (show HoldF CP V G w1 B off (X ++ (R1 ++ R2) ++ Z).toArray by simpa using hh1)
                  have HM2 := Lib.hid (HJN.out R2 hm2)
                  clear hg1 hh1 hm2
                  go_wp2_with fail
                  go_end0
                  exact ⟨rfl, HG3.out, _, HM2.out, HH3.out⟩
                | false =>
                  have HM2 := Lib.hid (show Merged P2 Q2 (P2 ++ Q2) by
                    have h := of_decide_eq_false HBr.out
                    have h4 := HL.out.1
                    have h5 := HL.out.2.1
                    have h6 := HD.out.2.2.1
                    have h9 := HD.out.2.2.2.1
                    have h7 := HE.out
                    rw [List.length_append] at h6 h9
                    have h8 : P2.length = 0 ∨ Q2.length = 0 := by omega
                    rcases h8 with h8 | h8
                    · rw [List.eq_nil_of_length_eq_zero h8]; exact Merged.nilL (List.pairwise_append.1 HD.out.2.2.2.2.2).2.1
                    · rw [List.eq_nil_of_length_eq_zero h8, List.append_nil]; exact Merged.nilR (List.pairwise_append.1 HD.out.2.2.2.2.1).2.1)
                  go_wp2_with fail
                  go_end0
                  exact ⟨rfl, HG2.out, _, HJN.out _ HM2.out, by have := HH2.out; simpa using this⟩
end Go.Proofs.YtemeppfikpafbaaGreat

/- slices.symMergeCmpFunc (135): two neighbouring ascending stretches become one, stably. -/
namespace Go.Proofs.YtemeppfikpafbaaGreat
open Go.RowKit Go.Sort
variable {CP : Nat} {V : Int × Int → Prop} {G : Int × Int → Fnd}
theorem sym_any : ∀ n, SymSaid CP V G n
  | 0 => fun X P Q Z B off cap a m b N w hn hX hP hQ ham hmb hN hsz hsP hsQ hH => absurd hn (by omega)
  | n + 1 => fun X P Q Z B off cap a m b N w hn hX hP hQ ham hmb hN hsz hsP hsQ hH => by
    by_cases h1 : a + 1 = m
    · match P, hP with
      | [p], _ => exact sym_one X p Q Z B off cap a m b N w hX h1 hQ hmb hN hsz hsQ hH
      | [], h => simp at h; omega
      | _ :: _ :: _, h => simp at h; omega
    by_cases h2 : m + 1 = b
    · match Q, hQ with
      | [q], _ => exact sym_last X P q Z B off cap a m b N w hX hP h2 (by omega) hN hsz hsP hH
      | [], h => simp at h; omega
      | _ :: _ :: _, h => simp at h; omega
    obtain ⟨md, hmd⟩ : ∃ md : Nat, ((a : Int) + b) / 2 = md := ⟨(a + b) / 2, by omega⟩
    by_cases hmm : md < m
    · exact sym_genA n (sym_any n) X P Q Z B off cap a m b N md w hn hX hP hQ (by omega) (by omega) hN hsz hsP hsQ hmd hmm hH
    · exact sym_genB n (sym_any n) X P Q Z B off cap a m b N md w hn hX hP hQ (by omega) (by omega) hN hsz hsP hsQ hmd hmm hH
end Go.Proofs.YtemeppfikpafbaaGreat

