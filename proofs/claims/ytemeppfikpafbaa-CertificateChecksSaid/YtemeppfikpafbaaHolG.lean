/- Holds: message and arrivals; network.component (233), network.valid (195). -/
import Derived.Test.YtemeppfikpafbaaGetG
import Derived.Test.YtemeppfikpafbaaOrdC
namespace Go.Proofs.Ytemeppfikpafbaa
open Go.RowKit
structure Ar where
  tk : Int
  hd : Int
  l : List Int
instance : Inhabited Ar := ⟨⟨0, 0, []⟩⟩
abbrev AV := Value × Ar
def aC (p : AV) : List Value := [.int .i64 p.2.tk, .int .i64 p.2.hd, p.1]
theorem aC_len (p : AV) : (aC p).length = 3 := rfl
structure Ho where
  m : M3
  al : List AV
instance : Inhabited Ho := ⟨⟨⟨0, 0, 0⟩, []⟩⟩
abbrev HV := Value × Ho
def hC (p : HV) : List Value := [.int .i64 p.2.m.f, .int .i64 p.2.m.t, .int .i64 p.2.m.n, p.1]
theorem hC_len (p : HV) : (hC p).length = 4 := rfl
def hA (p : HV) : Value := .agg #[.int .i64 p.2.m.f, .int .i64 p.2.m.t, .int .i64 p.2.m.n, p.1]
/-- A hold in memory: its arrivals, and their arguments. -/
structure HAt (S : Nat → Prop) (w : World) (p : HV) : Prop where
  row : Row S w 3 p.2.al.length p.1 (flatC aC p.2.al)
  arg : ∀ q ∈ p.2.al, Row S w 1 q.2.l.length q.1 (flatC nC q.2.l) ∧ NilA q.1
  nil : NilA p.1
  len : p.2.al.length ≤ maxLen
  lens : ∀ q ∈ p.2.al, q.2.l.length ≤ maxLen
theorem HAt.mono {S S' : Nat → Prop} {w w' : World} {p : HV} (h : HAt S w p) (hS : ∀ b, S b → b < w.heap.size → S' b) (hw : ∀ b, S b → b < w.heap.size → w'.heap[b]? = w.heap[b]?) : HAt S' w' p :=
  ⟨(h.row.lt (by omega)).mono (fun b hb => hS b hb.1 hb.2) (fun b off x hb hc => by
    rw [← hc]; exact World.cell?_of_block (w := w) (a := ⟨b, off, none⟩) (hw b hb.1 hb.2)), fun q hq => ⟨((h.arg q hq).1.lt (by omega)).mono (fun b hb => hS b hb.1 hb.2) (fun b off x hb hc => by
    rw [← hc]; exact World.cell?_of_block (w := w) (a := ⟨b, off, none⟩) (hw b hb.1 hb.2)), (h.arg q hq).2⟩, h.nil, h.len, h.lens⟩
theorem HAt.more {S : Nat → Prop} {w w' : World} {p : HV} (h : HAt S w p) (hm : More w w') : HAt S w' p := h.mono (fun _ hb _ => hb) (fun _ _ hl => hm.block hl)
/-- The form of arrivals, and of a hold. -/
def arOkb : Int → List AV → Bool
  | _, [] => true
  | last, a :: r => if a.2.tk < last ∨ a.2.hd < 0 ∨ 8 ≤ a.2.hd ∨ 4 < a.2.l.length then false else arOkb a.2.tk r
def msgOkb (m : M3) : Bool := decide (0 ≤ m.f ∧ m.f < 8) && (decide (0 ≤ m.t ∧ m.t < 8) && decide (0 ≤ m.n ∧ m.n ≤ 65535))
def hoOkb (h : Ho) : Bool := msgOkb h.m && (decide (h.al.length ≤ 2) && arOkb 1 h.al)
theorem comp233_any (c : Int) (w : World) : Calls Try.prog 233 #[.int .i64 c] w fun e w' => e = .returned (.bool (decide (0 ≤ c ∧ c < 8))) ∧ w' = w := by
  by_cases h0 : 0 ≤ c
  · by_cases h1 : c < 8
    · rw [decide_eq_true (And.intro h0 h1)]
      go_enter Try.func233, Try.ntmps233
      go_wp2_with fail
      go_ret
      exact ⟨rfl, rfl⟩
    · rw [decide_eq_false (fun h => h1 h.2)]
      have h2 : decide (c < 8) = false := decide_eq_false h1
      clear h1
      go_enter Try.func233, Try.ntmps233
      go_wp2_with fail
      go_ret
      exact ⟨rfl, rfl⟩
  · rw [decide_eq_false (fun h => h0 h.1)]
    have h2 : decide (0 ≤ c) = false := decide_eq_false h0
    clear h0
    go_enter Try.func233, Try.ntmps233
    go_wp2_with fail
    go_ret
    exact ⟨rfl, rfl⟩
set_option maxRecDepth 100000 in
set_option maxHeartbeats 4000000 in
theorem valid195_any (p : HV) (w : World) (hp : HAt anyB w p) : Calls Try.prog 195 #[hA p] w fun e w' => e = .returned (.bool (hoOkb p.2)) ∧ Below w.heap.size w w' := by
  obtain ⟨v, ⟨⟨mf, mt, mn⟩, al⟩⟩ := p
  have hrow := hp.row
  have hlen := hp.len
  have HAR := Lib.hid (fun q (hq : q ∈ al) => And.intro (hp.arg q hq).1 (hp.lens q hq))
  clear hp
  unfold hA
  dsimp only at *
  obtain ⟨sa, sc, rfl, _⟩ := hrow.shape
  have HR := Lib.hid hrow; clear hrow
  unfold maxLen at hlen
  have HCO := Lib.hid (fun (c : Int) (W : World) => comp233_any c W)
  obtain ⟨E, HE⟩ : ∃ E, Hid (E = hoOkb ⟨⟨mf, mt, mn⟩, al⟩) := ⟨_, Lib.hid rfl⟩
  rw [← HE.out]
  unfold hoOkb msgOkb at HE
  dsimp only at HE
  obtain ⟨ln, HLN⟩ : ∃ ln, Hid (al.length = ln) := ⟨_, Lib.hid rfl⟩
  rw [HLN.out] at HR hlen HE ⊢
  have HB1 := Lib.hid (alloc_last w (.cells #[.int .i64 mf, .int .i64 mt, .int .i64 mn, .slice sa ln sc] 166))
  have HM1 := Lib.hid (more_alloc w (.cells #[.int .i64 mf, .int .i64 mt, .int .i64 mn, .slice sa ln sc] 166))
  obtain ⟨N, HN⟩ : ∃ N, Hid (N = w.heap.size) := ⟨_, Lib.hid rfl⟩
  rw [← HN.out] at HB1 ⊢
  go_enter Try.func195, Try.ntmps195
  go_upto_region 1 with (fail)
  rw [← HN.out]
  generalize w.alloc (.cells #[.int .i64 mf, .int .i64 mt, .int .i64 mn, .slice sa ln sc] 166) = w1 at *
  have c0 : w1.cell? ⟨N, 0, none⟩ = some (.int .i64 mf) := cell_of_blk HB1.out rfl
  have c1 : w1.cell? ⟨N, 1, none⟩ = some (.int .i64 mt) := cell_of_blk HB1.out rfl
  have c2 : w1.cell? ⟨N, 2, none⟩ = some (.int .i64 mn) := cell_of_blk HB1.out rfl
  have hbc := cell_lt c0
  have HB2 := Lib.hid (alloc_last w1 (.cells #[.int .i64 mf, .int .i64 mt, .int .i64 mn] 54))
  have HM2 := Lib.hid (more_alloc w1 (.cells #[.int .i64 mf, .int .i64 mt, .int .i64 mn] 54))
  go_upto_region 2 with (fail)
  have HB1b := Lib.hid ((HM2.out.block (blk_lt HB1.out)).trans HB1.out)
  generalize w1.alloc (.cells #[.int .i64 mf, .int .i64 mt, .int .i64 mn] 54) = w2 at *
  generalize w1.heap.size = MB at *
  clear c0 c1 c2 hbc
  have m0 : w2.cell? ⟨MB, 0, none⟩ = some (.int .i64 mf) := cell_of_blk HB2.out rfl
  have m1 : w2.cell? ⟨MB, 1, none⟩ = some (.int .i64 mt) := cell_of_blk HB2.out rfl
  have m2 : w2.cell? ⟨MB, 2, none⟩ = some (.int .i64 mn) := cell_of_blk HB2.out rfl
  have c3 : w2.cell? ⟨N, 3, none⟩ = some (.slice sa ln sc) := cell_of_blk HB1b.out rfl
  have hbm := cell_lt m0
  have hbc := cell_lt c3
  have HBE := Lib.hid (show Below N w w2 from by rw [HN.out]; exact (more_trans HM1.out HM2.out).below)
  go_wp2_with fail
  refine (HCO.out _ _).mono ?_
  rintro e wA ⟨rfl, hwA⟩
  have hwA := hwA.symm
  subst hwA
  obtain ⟨q1, HQ1⟩ : ∃ q1, Hid (decide (0 ≤ mf ∧ mf < 8) = q1) := ⟨_, Lib.hid rfl⟩
  rw [HQ1.out]
  rw [HQ1.out] at HE
  cases q1 with
  | false =>
    go_wp2_with fail
    go_ret
    exact ⟨by rw [HE.out]; rfl, HBE.out⟩
  | true =>
    go_wp2_with fail
    refine (HCO.out _ _).mono ?_
    rintro e wA ⟨rfl, hwA⟩
    have hwA := hwA.symm
    subst hwA
    obtain ⟨q2, HQ2⟩ : ∃ q2, Hid (decide (0 ≤ mt ∧ mt < 8) = q2) := ⟨_, Lib.hid rfl⟩
    rw [HQ2.out]
    rw [HQ2.out] at HE
    cases q2 with
    | false =>
      go_wp2_with fail
      go_ret
      exact ⟨by rw [HE.out]; rfl, HBE.out⟩
    | true =>
      by_cases hn0 : mn < 0
      · rw [decide_eq_false (fun h : 0 ≤ mn ∧ mn ≤ 65535 => by omega)] at HE
        go_wp2_with fail
        go_ret
        exact ⟨by rw [HE.out]; rfl, HBE.out⟩
      · by_cases hn1 : 65535 < mn
        · rw [decide_eq_false (fun h : 0 ≤ mn ∧ mn ≤ 65535 => by omega)] at HE
          have hd0 : decide (mn < 0) = false := decide_eq_false hn0
          go_wp2_with fail
          go_ret
          exact ⟨by rw [HE.out]; rfl, HBE.out⟩
        · rw [decide_eq_true (show 0 ≤ mn ∧ mn ≤ 65535 by omega)] at HE
          by_cases hl2 : 2 < ln
          · rw [decide_eq_false (fun h : ln ≤ 2 => by omega)] at HE
            have hd0 : decide (mn < 0) = false := decide_eq_false hn0
            have hd1 : decide (65535 < mn) = false := decide_eq_false hn1
            have hl3 : (2 : Int) < ln := by omega
            go_wp2_with fail
            go_ret
            exact ⟨by rw [HE.out]; rfl, HBE.out⟩
          · rw [decide_eq_true (show ln ≤ 2 by omega)] at HE
            have hd0 : decide (mn < 0) = false := decide_eq_false hn0
            have hd1 : decide (65535 < mn) = false := decide_eq_false hn1
            have hd2 : decide ((2 : Int) < ln) = false := decide_eq_false (by omega)
            have HL2 := Lib.hid (show ln ≤ 2 by omega)
            clear hn0 hn1 hl2 hlen
            go_wp2_with fail
            clear m0 m1 m2 c3 hbm hbc hd0 hd1 hd2
            go_loopw [4, 38] (fun u i wr => ∃ (j : Nat) (last : Int), j ≤ ln ∧ i = .int .i64 j ∧ u = .int .i64 last ∧ Hid (More w2 wr) ∧ Hid (arOkb last (al.drop j) = E)) (fun _ i _ => ln - (intOf i).toNat)
            case atStart => exact ⟨0, 1, Nat.zero_le _, rfl, rfl, Lib.hid (World.grownBy.refl _ _), Lib.hid (by rw [HE.out]; rfl)⟩
            case round =>
              obtain ⟨j, last, hj, rfl, rfl, HM, HEQ⟩ := hrel
              have HMW := Lib.hid (show More w wr from more_trans (more_trans HM1.out HM2.out) HM.out)
              have HBW := Lib.hid (show Below N w wr from by rw [HN.out]; exact HMW.out.below)
              have hln2 := HL2.out
              by_cases hlt : j < ln
              · have hjl : j < al.length := by rw [HLN.out]; exact hlt
                have hrw := HR.out
                rw [← HLN.out] at hrw
                obtain ⟨b, off, rfl, _, hc⟩ := hrw.atC aC_len hjl
                have g0 := HMW.out.cell (hc 0 (.int .i64 al[j].2.tk) rfl)
                have g1 := HMW.out.cell (hc 1 (.int .i64 al[j].2.hd) rfl)
                have g2 := HMW.out.cell (hc 2 al[j].1 rfl)
                rw [Nat.add_zero] at g0
                clear hc hrw
                obtain ⟨xa, xc, hxv, _⟩ := (HAR.out _ (List.getElem_mem hjl)).1.shape
                have hxl := (HAR.out _ (List.getElem_mem hjl)).2
                rw [hxv] at g2
                rw [List.drop_eq_getElem_cons hjl] at HEQ
                have HLT := Lib.hid hlt
                generalize al[j] = x at *
                clear hxv hjl
                unfold maxLen at hxl
                have hbg := cell_lt g0
                have HMO := Lib.hid (more_alloc wr (.cells #[.int .i64 x.2.tk, .int .i64 x.2.hd, .slice xa x.2.l.length xc] 177))
                have HXB := Lib.hid (alloc_last wr (.cells #[.int .i64 x.2.tk, .int .i64 x.2.hd, .slice xa x.2.l.length xc] 177))
                go_upto_region 8 with (fail)
                clear g0 g1 g2 hbg
                have HB9 := Lib.hid (show Below N w _ from HBW.out.trans (HMO.out.below.mono (by rw [HN.out]; exact HMW.out.size)))
                generalize wr.alloc (.cells #[.int .i64 x.2.tk, .int .i64 x.2.hd, .slice xa x.2.l.length xc] 177) = w5 at *
                generalize wr.heap.size = XB at *
                have x0 : w5.cell? ⟨XB, 0, none⟩ = some (.int .i64 x.2.tk) := cell_of_blk HXB.out rfl
                have x1 : w5.cell? ⟨XB, 1, none⟩ = some (.int .i64 x.2.hd) := cell_of_blk HXB.out rfl
                have x2 : w5.cell? ⟨XB, 2, none⟩ = some (.slice xa x.2.l.length xc) := cell_of_blk HXB.out rfl
                have hbx := cell_lt x0
                by_cases hbad : x.2.tk < last ∨ x.2.hd < 0 ∨ 8 ≤ x.2.hd ∨ 4 < x.2.l.length
                · have HF := Lib.hid (show false = E by rw [← HEQ.out, arOkb, if_pos hbad])
                  by_cases h1 : x.2.tk < last
                  · go_wp2_with fail
                    go_ret
                    exact ⟨by rw [← HF.out]; rfl, HB9.out⟩
                  · have e1 : decide (x.2.tk < last) = false := decide_eq_false h1
                    by_cases h2 : x.2.hd < 0
                    · go_wp2_with fail
                      go_ret
                      exact ⟨by rw [← HF.out]; rfl, HB9.out⟩
                    · have e2 : decide (x.2.hd < 0) = false := decide_eq_false h2
                      by_cases h3 : 8 ≤ x.2.hd
                      · go_wp2_with fail
                        go_ret
                        exact ⟨by rw [← HF.out]; rfl, HB9.out⟩
                      · have e3 : decide (8 ≤ x.2.hd) = false := decide_eq_false h3
                        have h4 : (4 : Int) < x.2.l.length := by omega
                        clear hbad h1 h2 h3
                        go_wp2_with fail
                        go_ret
                        exact ⟨by rw [← HF.out]; rfl, HB9.out⟩
                · have HF := Lib.hid (show arOkb x.2.tk (al.drop (j + 1)) = E by rw [← HEQ.out, arOkb, if_neg hbad])
                  have e1 : decide (x.2.tk < last) = false := decide_eq_false (by omega)
                  have e2 : decide (x.2.hd < 0) = false := decide_eq_false (by omega)
                  have e3 : decide (8 ≤ x.2.hd) = false := decide_eq_false (by omega)
                  have e4 : decide ((4 : Int) < x.2.l.length) = false := decide_eq_false (by omega)
                  clear hbad
                  have hlt9 := HLT.out
                  go_wp2_with fail
                  go_roundw
                  case rel => exact ⟨j + 1, x.2.tk, by omega, by go_num, rfl, Lib.hid (more_trans HM.out HMO.out), HF⟩
                  case measure => have := HLT.out; simp [intOf]; omega
              · obtain rfl : j = ln := by omega
                rw [List.drop_of_length_le (by rw [HLN.out]; exact Nat.le_refl _)] at HEQ
                go_wp2_with fail
                go_ret
                exact ⟨by rw [← HEQ.out]; rfl, HBW.out⟩
end Go.Proofs.Ytemeppfikpafbaa
