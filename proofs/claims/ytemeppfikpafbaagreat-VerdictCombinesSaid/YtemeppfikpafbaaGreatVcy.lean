/- Texts RnkV, laid together. -/
import Derived.Deep.QuietTactic
import Derived.BigQuiet
import Derived.Deep.CutBlock
import Derived.Test.YtemeppfikpafbaaGreatVcw
/- law49's rank (12), its first half: the causes of all lists in order. -/
namespace Go.Proofs.YtemeppfikpafbaaGreat
open Go.RowKit
def preV (ls : List LV) (j : Nat) : List CV := (ls.take j).flatMap fun p => p.2
theorem preV_take (ls : List LV) (j : Nat) (h : j < ls.length) : preV ls (j + 1) = preV ls j ++ ls[j].2 := by
  unfold preV
  rw [List.take_succ_eq_append_getElem h, List.flatMap_append]
  simp
set_option maxRecDepth 100000 in
set_option maxHeartbeats 4000000 in
theorem rank12_any (ls : List LV) (v : Value) (w : World) (h : ListsAt w ls v) (h6 : ls.length ≤ 6) (h66 : ∀ p ∈ ls, p.2.length ≤ 6) :
    Calls Tryz.prog 12 #[v] w fun e w' => (∃ (A : List CV) (I : List NV) (va vi : Value), e = .returned (.tuple #[va, vi]) ∧ RkA (preV ls ls.length) A ∧ A.length ≤ 36 ∧ Row anyB w' 2 A.length va (flatC qC A) ∧ (∀ a ∈ A, CauAt w' a.2.2 a.1 a.2.1) ∧ NilA va
      ∧ I.map (·.2) = ls.map (fun p => posL A p.2) ∧ Row anyB w' 1 I.length vi (flatC lN I) ∧ ∀ p ∈ I, Row anyB w' 1 p.2.length p.1 (flatC nC p.2)) ∧ Below w.heap.size w w' := by
  obtain ⟨va, vc, rfl, _⟩ := h.row.shape
  have HLS := Lib.hid h
  have H66 := Lib.hid h66
  clear h h66
  obtain ⟨i0, hi0, hz0, hz1, hz2⟩ := info_parts infoC
  obtain ⟨N, HN⟩ : ∃ N, Hid (N = w.heap.size) := ⟨_, Lib.hid rfl⟩
  go_enter Tryz.func12, Tryz.ntmps12
  go_upto_block 0 with (fail)
  go_cut [4] (fun u wx => ∃ A : List CV, Hid (RkA (preV ls ls.length) A) ∧ Hid (wx.ownsRow N 34 2 u A.length (flatC qC A)) ∧ Hid (Below N w wx) ∧ Hid (A.length ≤ 36))
  case first =>
    as_aux_lemma =>
      go_wp2_with fail
      go_loopw [4, 20] (fun u i wr => ∃ (j : Nat) (A : List CV), j ≤ ls.length ∧ i = .int .i64 j ∧ Hid (RkA (preV ls j) A) ∧ Hid (wr.ownsRow N 34 2 u A.length (flatC qC A)) ∧ Hid (Below N w wr) ∧ Hid (A.length ≤ 6 * j)) (fun _ i _ => ls.length - (intOf i).toNat)
      case atStart => exact ⟨0, [], Nat.zero_le _, rfl, Lib.hid RkA.nil, Lib.hid (World.ownsRow_nil _ _ _ _), Lib.hid (Below.refl _ _), Lib.hid (Nat.zero_le _)⟩
      case round =>
        obtain ⟨j, A, hj, rfl, HA, HO, HB, HAL⟩ := hrel
        have HMW := Lib.hid (show More w wr from by have := HB.out; rw [HN.out] at this; exact more_of this)
        by_cases hlt : j < ls.length
        · obtain ⟨b, off, rfl, _, hc⟩ := HLS.out.row.atC lC_len hlt
          have g0 := HMW.out.cell (hc 0 ls[j].1 rfl)
          rw [Nat.add_zero, Nat.mul_one] at g0
          clear hc
          have HPT := Lib.hid (preV_take ls j hlt)
          have HIN := Lib.hid (HLS.out.inner _ (List.getElem_mem hlt))
          have HEA := Lib.hid (HLS.out.each _ (List.getElem_mem hlt))
          have hln := H66.out _ (List.getElem_mem hlt)
          have HLT := Lib.hid hlt
          generalize ls[j] = p at *
          obtain ⟨pv, pl⟩ := p
          dsimp only at *
          obtain ⟨pa, pc, rfl, _⟩ := HIN.out.shape
          have hbg := cell_lt g0
          obtain ⟨wo, rfl⟩ : ∃ wo : World, wo = wr := ⟨_, rfl⟩
          go_wp2_with fail
          go_loopw [4, 26] (fun u i wr => ∃ (k : Nat) (A : List CV), k ≤ pl.length ∧ i = .int .i64 k ∧ Hid (RkA (preV ls j ++ pl.take k) A) ∧ Hid (wr.ownsRow N 34 2 u A.length (flatC qC A)) ∧ Hid (Below N w wr) ∧ Hid (A.length ≤ 6 * j + k)) (fun _ i _ => pl.length - (intOf i).toNat)
          case atStart => exact ⟨0, A, Nat.zero_le _, rfl, Lib.hid (by rw [List.take_zero, List.append_nil]; exact HA.out), HO, HB, HAL⟩
          case round =>
            obtain ⟨k, A, hk, rfl, HA, HO, HB, HAL⟩ := hrel
            have HMW2 := Lib.hid (show More w wr from by have := HB.out; rw [HN.out] at this; exact more_of this)
            by_cases hlt2 : k < pl.length
            · obtain ⟨b2, off2, hab, _, hc⟩ := HIN.out.atC qC_len hlt2
              subst hab
              have e0 := HMW2.out.cell (hc 0 pl[k].1 rfl)
              have e1 := HMW2.out.cell (hc 1 pl[k].2.1 rfl)
              rw [Nat.add_zero] at e0
              clear hc
              have HPK := Lib.hid (show preV ls j ++ pl.take (k + 1) = (preV ls j ++ pl.take k) ++ [pl[k]] by rw [List.take_succ_eq_append_getElem hlt2, List.append_assoc])
              have HEQ := Lib.hid (CauAt.more (HEA.out _ (List.getElem_mem hlt2)) HMW2.out)
              have HLT2 := Lib.hid hlt2
              generalize pl[k] = q at *
              obtain ⟨qu, qh, qc⟩ := q
              dsimp only at *
              obtain ⟨ua, uc, rfl, _⟩ := HEQ.out.ru.shape
              obtain ⟨ha, hcp, rfl, _⟩ := HEQ.out.rh.shape
              obtain ⟨ga, gcp, rfl, _⟩ := owns_shape HO.out
              have hbe := cell_lt e0
              have HXB := Lib.hid (alloc_last wr (.cells #[.slice ua qc.undo.length uc, .slice ha qc.hold.length hcp] 34))
              have HM5 := Lib.hid (more_alloc wr (.cells #[.slice ua qc.undo.length uc, .slice ha qc.hold.length hcp] 34))
              generalize hnu : qc.undo.length = nu at *
              generalize hnh : qc.hold.length = nh at *
              have HNU := Lib.hid (And.intro hnu hnh)
              clear hnu hnh
              have hlt2' := hlt2
              go_upto_region 8 with (fail)
              obtain ⟨XB, HXE⟩ : ∃ XB, Hid (XB = wr.heap.size) := ⟨_, Lib.hid rfl⟩
              rw [← HXE.out] at HXB ⊢
              generalize wr.alloc (.cells #[.slice ua nu uc, .slice ha nh hcp] 34) = w5 at *
              clear e0 e1 hbe
              have HB5 := Lib.hid (show Below N w w5 from HB.out.trans (HM5.out.below.mono (by have := HB.out.size; rw [HN.out]; exact this)))
              have HO5 := Lib.hid (owns_keep HO.out (fun z hz => HM5.out.block (HO.out.lt z hz).2))
              have HSZ := Lib.hid (show N ≤ w5.heap.size by have := HB5.out.size; rw [HN.out]; exact this)
              have HQ5 := Lib.hid (CauAt.more HEQ.out HM5.out)
              have HEV := Lib.hid (show ∀ a ∈ A, CauAt w5 a.2.2 a.1 a.2.1 from fun a ha => by
                have hm := HA.out.sub a ha
                have hb := HB5.out
                rw [HN.out] at hb
                rcases List.mem_append.1 hm with h1 | h1
                · unfold preV at h1
                  obtain ⟨p, hp, hq⟩ := List.mem_flatMap.1 h1
                  exact CauAt.below (HLS.out.each p (List.mem_of_mem_take hp) a hq) hb
                · exact CauAt.below (HEA.out a (List.mem_of_mem_take h1)) hb)
              clear HEQ HB HO HM5
              obtain ⟨w5', rfl⟩ : ∃ w5' : World, w5' = w5 := ⟨_, rfl⟩
              go_upto_block 4 with (fail)
              go_cut [9] (fun i wx => ∃ t : Nat, t ≤ A.length ∧ i = .int .i64 t ∧ Hid (∀ s (hs : s < A.length), s < t → cmpP (kV A[s]) (keyC qc) < 0) ∧ Hid (∀ (ht : t < A.length), 0 ≤ cmpP (kV A[t]) (keyC qc)) ∧ Hid (More w5' wx))
              case first =>
                as_aux_lemma =>
                  go_wp2_with fail
                  go_loopw [9] (fun i wr => ∃ t : Nat, t ≤ A.length ∧ i = .int .i64 t ∧ Hid (∀ s (hs : s < A.length), s < t → cmpP (kV A[s]) (keyC qc) < 0) ∧ Hid (More w5' wr)) (fun i _ => A.length - (intOf i).toNat)
                  case atStart => exact ⟨0, Nat.zero_le _, rfl, Lib.hid (fun s _ h => absurd h (by omega)), Lib.hid (World.grownBy.refl _ _)⟩
                  case round =>
                    obtain ⟨t, ht, rfl, HLO, HM⟩ := hrel
                    by_cases hta : t < A.length
                    · obtain ⟨b3, off3, hga, _, hc⟩ := (Row.of_owns HO5.out).atC qC_len hta
                      subst hga
                      have e0 := hc 0 A[t].1 rfl
                      have e1 := hc 1 A[t].2.1 rfl
                      rw [Nat.add_zero] at e0
                      clear hc
                      have HAT := Lib.hid (HEV.out _ (List.getElem_mem hta))
                      have HNX := Lib.hid (show cmpP (kV A[t]) (keyC qc) < 0 → ∀ s (hs : s < A.length), s < t + 1 → cmpP (kV A[s]) (keyC qc) < 0 from fun hz s hs hst => by
                        rcases Nat.lt_or_ge s t with h1 | h1
                        · exact HLO.out s hs h1
                        · obtain rfl : s = t := by omega
                          exact hz)
                      have HNE := Lib.hid (show 0 ≤ cmpP (kV A[t]) (keyC qc) → ∀ (ht : t < A.length), 0 ≤ cmpP (kV A[t]) (keyC qc) from fun hz _ => hz)
                      have hkv : kV A[t] = keyC A[t].2.2 := rfl
                      rw [hkv] at HNX HNE
                      clear hkv
                      have HTA := Lib.hid hta
                      generalize A[t] = a at *
                      obtain ⟨au, ah, ac⟩ := a
                      dsimp only at *
                      obtain ⟨aua, auc, rfl, _⟩ := HAT.out.ru.shape
                      obtain ⟨aha, ahc, rfl, _⟩ := HAT.out.rh.shape
                      have HLE := Lib.hid (fun W (hW : More w5' W) => lessCause_any ac qc _ _ (.slice ua nu uc) (.slice ha nh hcp) W (CauAt.more HAT.out hW) (CauAt.more HQ5.out hW))
                      rw [lessV] at HLE
                      generalize ac.undo.length = n1 at *
                      generalize ac.hold.length = n2 at *
                      have HK := Lib.hid (show ∀ W, More w5' W → (W.cell? ⟨b3, off3 + t * 2, none⟩ = some (.slice aua n1 auc) ∧ W.cell? ⟨b3, off3 + t * 2 + 1, none⟩ = some (.slice aha n2 ahc) ∧ W.cell? ⟨XB, 0, none⟩ = some (.slice ua nu uc) ∧ W.cell? ⟨XB, 1, none⟩ = some (.slice ha nh hcp)) from fun W h => ⟨h.cell e0, h.cell e1, h.cell (cell_of_blk HXB.out rfl), h.cell (cell_of_blk HXB.out rfl)⟩)
                      clear e0 e1
                      have HL := Lib.hid (more_trans HM.out (more_drew wr))
                      have jz1 : (t : Int) < (A.length : Int) := by omega
                      obtain ⟨z, HZ⟩ : ∃ z, Hid (decide (cmpP (keyC ac) (keyC qc) < 0) = z) := ⟨_, Lib.hid rfl⟩
                      rw [HZ.out] at HLE
                      go_upto_region 9 with (fail)
                      go_region_held3 (fun W => W.cell? ⟨b3, off3 + t * 2, none⟩ = some (.slice aua n1 auc) ∧ W.cell? ⟨b3, off3 + t * 2 + 1, none⟩ = some (.slice aha n2 ahc) ∧ W.cell? ⟨XB, 0, none⟩ = some (.slice ua nu uc) ∧ W.cell? ⟨XB, 1, none⟩ = some (.slice ha nh hcp)) (first | with_reducible exact HK.out _ HL.out) (first | (go_at_call 27; refine (HLE.out _ HL.out).mono ?_; rintro e w9 ⟨rfl, hm9⟩; have HL := Lib.hid (more_trans HL.out hm9); clear hm9))
                      all_goals
                        have hta9 := HTA.out
                        have hal9 : A.length ≤ 100 := by have := HAL.out; have := HLT.out; have := HLT2.out; omega
                        cases z with
                        | true =>
                          have HN9 := Lib.hid (HNX.out (of_decide_eq_true HZ.out))
                          go_wp2_with fail
                          go_roundw
                          case rel => exact ⟨t + 1, by omega, by go_num, HN9, HL⟩
                          case measure => simp [intOf]; omega
                        | false =>
                          have HN9 := Lib.hid (HNE.out (Int.not_lt.1 (of_decide_eq_false HZ.out)))
                          go_wp2_with fail
                          go_meet
                          exact ⟨t, by omega, rfl, HLO, HN9, HL⟩
                    · obtain rfl : t = A.length := by omega
                      have hal9 : A.length ≤ 100 := by have := HAL.out; have := HLT.out; have := HLT2.out; omega
                      have hnl : ¬ (A.length : Int) < (A.length : Int) := by omega
                      clear hta ht
                      go_wp2_with fail
                      go_quiet (fail)
                      go_wp2_with fail
                      go_meet
                      exact ⟨A.length, Nat.le_refl _, rfl, HLO, Lib.hid (fun h => absurd h (by omega)), Lib.hid (more_trans HM.out (grownBy_drewN _ _ _))⟩
              case rest =>
                obtain ⟨t, ht, rfl, HLO, HHI, HM6⟩ := hcut
                obtain ⟨w6, rfl⟩ : ∃ w6 : World, w6 = wc := ⟨_, rfl⟩
                have HO6 := Lib.hid (owns_keep HO5.out (fun z hz => HM6.out.block (HO5.out.lt z hz).2))
                have HXB6 := Lib.hid ((HM6.out.block (blk_lt HXB.out)).trans HXB.out)
                have hal9 : A.length ≤ 100 := by have := HAL.out; have := HLT.out; have := HLT2.out; omega
                have HSM := Lib.hid (show ∀ (h : t < A.length), decide (keyC A[t].2.2 = keyC qc) = true → RkA ((preV ls j ++ pl.take k) ++ [(.slice ua nu uc, .slice ha nh hcp, qc)]) A from fun h he => HA.out.same h (of_decide_eq_true he))
                have HIS := Lib.hid (show (∀ (h : t < A.length), decide (keyC A[t].2.2 = keyC qc) = false) → RkA ((preV ls j ++ pl.take k) ++ [(.slice ua nu uc, .slice ha nh hcp, qc)]) (A.take t ++ (.slice ua nu uc, .slice ha nh hcp, qc) :: A.drop t) from fun hne => HA.out.ins ht (fun s hs hst => HLO.out s hs hst) (fun h => by
                  have h1 := HHI.out h
                  have h2 := of_decide_eq_false (hne h)
                  have h3 := cmpP_to.zero (kV A[t]) (keyC qc)
                  have h4 := cmpP_to.anti (keyC qc) (kV A[t])
                  have h5 : cmpP (kV A[t]) (keyC qc) ≠ 0 := fun e => h2 (h3.1 e)
                  exact h4.2 (by omega)))
                go_upto_region 11 with (fail)
                go_cut [55] (fun s wx => ∃ q : Bool, s = .bool q ∧ Hid (q = true → RkA ((preV ls j ++ pl.take k) ++ [(.slice ua nu uc, .slice ha nh hcp, qc)]) A) ∧ Hid (q = false → RkA ((preV ls j ++ pl.take k) ++ [(.slice ua nu uc, .slice ha nh hcp, qc)]) (A.take t ++ (.slice ua nu uc, .slice ha nh hcp, qc) :: A.drop t)) ∧ Hid (More w6 wx))
                case first =>
                  as_aux_lemma =>
                    by_cases hta : t < A.length
                    · obtain ⟨b3, off3, hga, _, hc⟩ := (Row.of_owns HO6.out).atC qC_len hta
                      subst hga
                      have e0 := hc 0 A[t].1 rfl
                      have e1 := hc 1 A[t].2.1 rfl
                      rw [Nat.add_zero] at e0
                      clear hc
                      have HAT := Lib.hid (CauAt.more (HEV.out _ (List.getElem_mem hta)) HM6.out)
                      have HQ6 := Lib.hid (CauAt.more HQ5.out HM6.out)
                      have HSM2 := Lib.hid (HSM.out hta)
                      have HIS2 := Lib.hid (show decide (keyC A[t].2.2 = keyC qc) = false → RkA ((preV ls j ++ pl.take k) ++ [(.slice ua nu uc, .slice ha nh hcp, qc)]) (A.take t ++ (.slice ua nu uc, .slice ha nh hcp, qc) :: A.drop t) from fun h => HIS.out fun _ => h)
                      clear HSM HIS HHI HLO
                      generalize A[t] = a at *
                      obtain ⟨au, ah, ac⟩ := a
                      dsimp only at *
                      obtain ⟨aua, auc, rfl, _⟩ := HAT.out.ru.shape
                      obtain ⟨aha, ahc, rfl, _⟩ := HAT.out.rh.shape
                      have HLE := Lib.hid (fun W (hW : More w6 W) => equalCause_any ac qc _ _ (.slice ua nu uc) (.slice ha nh hcp) W (CauAt.more HAT.out hW) (CauAt.more HQ6.out hW))
                      rw [eqV] at HLE
                      generalize ac.undo.length = n1 at *
                      generalize ac.hold.length = n2 at *
                      generalize decide (keyC ac = keyC qc) = z at *
                      have HK := Lib.hid (show ∀ W, More w6 W → (W.cell? ⟨b3, off3 + t * 2, none⟩ = some (.slice aua n1 auc) ∧ W.cell? ⟨b3, off3 + t * 2 + 1, none⟩ = some (.slice aha n2 ahc) ∧ W.cell? ⟨XB, 0, none⟩ = some (.slice ua nu uc) ∧ W.cell? ⟨XB, 1, none⟩ = some (.slice ha nh hcp)) from fun W h => ⟨h.cell e0, h.cell e1, h.cell (cell_of_blk HXB6.out rfl), h.cell (cell_of_blk HXB6.out rfl)⟩)
                      clear e0 e1
                      have HL := Lib.hid (more_drew w6)
                      have jz1 : (t : Int) < (A.length : Int) := by omega
                      go_region_held3 (fun W => W.cell? ⟨b3, off3 + t * 2, none⟩ = some (.slice aua n1 auc) ∧ W.cell? ⟨b3, off3 + t * 2 + 1, none⟩ = some (.slice aha n2 ahc) ∧ W.cell? ⟨XB, 0, none⟩ = some (.slice ua nu uc) ∧ W.cell? ⟨XB, 1, none⟩ = some (.slice ha nh hcp)) (first | with_reducible exact HK.out _ HL.out) (first | (go_at_call 10; refine (HLE.out _ HL.out).mono ?_; rintro e w9 ⟨rfl, hm9⟩; have HL := Lib.hid (more_trans HL.out hm9); clear hm9))
                      all_goals
                        go_wp2_with fail
                        go_meet
                        exact ⟨z, rfl, HSM2, HIS2, HL⟩
                    · obtain rfl : t = A.length := by omega
                      have hnl : ¬ (A.length : Int) < (A.length : Int) := by omega
                      have HIS2 := Lib.hid (HIS.out (fun h => absurd h (by omega)))
                      clear hta ht
                      go_quiet (fail)
                      go_wp2_with fail
                      go_meet
                      exact ⟨false, rfl, Lib.hid (fun h => by cases h), Lib.hid (fun _ => HIS2.out), Lib.hid (grownBy_drewN _ _ _)⟩
                case rest =>
                  obtain ⟨q, rfl, HSM2, HIS2, HM7⟩ := hcut
                  obtain ⟨w7, rfl⟩ : ∃ w7 : World, w7 = wc := ⟨_, rfl⟩
                  have HMX := Lib.hid (more_trans HM6.out HM7.out)
                  have HO7 := Lib.hid (owns_keep HO5.out (fun z hz => HMX.out.block (HO5.out.lt z hz).2))
                  have HB7 := Lib.hid (HB5.out.trans (HMX.out.below.mono HSZ.out))
                  have HXB7 := Lib.hid ((HMX.out.block (blk_lt HXB.out)).trans HXB.out)
                  have HSZ7 := Lib.hid (Nat.le_trans HSZ.out HMX.out.size)
                  have hj9 := HLT.out
                  have hk9 := HLT2.out
                  cases q with
                  | true =>
                    have HA9 := Lib.hid (show RkA (preV ls j ++ pl.take (k + 1)) A by rw [HPK.out]; exact HSM2.out rfl)
                    clear HSM HIS HSM2 HIS2
                    go_wp2_with fail
                    go_roundw
                    case rel => exact ⟨k + 1, A, by omega, by go_num, HA9, HO7, HB7, Lib.hid (by have := HAL.out; omega)⟩
                    case measure => simp [intOf]; omega
                  | false =>
                    have HA9 := Lib.hid (show RkA (preV ls j ++ pl.take (k + 1)) (A.take t ++ (.slice ua nu uc, .slice ha nh hcp, qc) :: A.drop t) by rw [HPK.out]; exact HIS2.out rfl)
                    clear HSM HIS HSM2 HIS2 HLO HHI
                    have hal9 : A.length ≤ 100 := by have := HAL.out; omega
                    obtain ⟨⟨ga2, hs1, hr1, hn1⟩, hs2, hr2, hn2⟩ := slice25 (c := qC) qC_len ga A.length gcp t ht rfl ((Row.of_owns HO7.out).mono (S' := anyB) (fun _ _ => trivial) (fun _ _ _ _ h => h)) (owns_nil HO7.out)
                    have HONE := Lib.hid (show ∀ a ∈ A, a.1.oneCell' = true ∧ a.2.1.oneCell' = true from fun a ha => by
                      have h1 := HEV.out a ha
                      obtain ⟨_, _, e1, _⟩ := h1.ru.shape
                      obtain ⟨_, _, e2, _⟩ := h1.rh.shape
                      rw [e1, e2]; exact ⟨rfl, rfl⟩)
                    have HO1 := Lib.hid (qC_oneL (L := A.drop t) fun a ha => HONE.out a (List.mem_of_mem_drop ha))
                    have HO2 := Lib.hid (qC_oneL (L := A.take t) fun a ha => HONE.out a (List.mem_of_mem_take ha))
                    have HDL := Lib.hid (show (A.drop t).length = A.length - t by rw [List.length_drop])
                    have HTL := Lib.hid (show (A.take t).length = t by rw [List.length_take]; omega)
                    have HFX := Lib.hid (show flatC qC (A.take t) ++ ([.slice ua nu uc, .slice ha nh hcp] ++ flatC qC (A.drop t)) = flatC qC (A.take t ++ (.slice ua nu uc, .slice ha nh hcp, qc) :: A.drop t) by rw [flatC_append]; rfl)
                    have HLX := Lib.hid (show (A.take t ++ ((.slice ua nu uc, .slice ha nh hcp, qc) : CV) :: A.drop t).length = t + (1 + (A.length - t)) by rw [List.length_append, List.length_cons, List.length_take, List.length_drop]; omega)
                    have HLY := Lib.hid (show (A.take t ++ ((.slice ua nu uc, .slice ha nh hcp, qc) : CV) :: A.drop t).length = A.length + 1 by rw [List.length_append, List.length_cons, List.length_take, List.length_drop]; omega)
                    rw [HDL.out] at hr1
                    rw [HTL.out] at hr2
                    have HNS := Lib.hid (show A.length - t ≤ 100 by omega)
                    generalize A.length - t = n1 at *
                    generalize gcp - t = c1 at *
                    have HR1 := Lib.hid hr1
                    have HR2 := Lib.hid hr2
                    have HN1 := Lib.hid hn1
                    have HN2 := Lib.hid hn2
                    clear hr1 hr2 hn1 hn2 hlt2'
                    have x0 : w7.cell? ⟨XB, 0, none⟩ = some (.slice ua nu uc) := cell_of_blk HXB7.out rfl
                    have x1 : w7.cell? ⟨XB, 1, none⟩ = some (.slice ha nh hcp) := cell_of_blk HXB7.out rfl
                    have s0 : w7.drew.cell? ⟨XB, 0, none⟩ = some (.slice ua nu uc) := x0
                    have s1 : w7.drew.cell? ⟨XB, 1, none⟩ = some (.slice ha nh hcp) := x1
                    have HML := Lib.hid (show More w7 ((w7.alloc (.cells #[.slice ua nu uc, .slice ha nh hcp] 34)).drew) from more_trans (more_alloc _ _) (more_drew _))
                    have HOL := Lib.hid (show ((w7.alloc (.cells #[.slice ua nu uc, .slice ha nh hcp] 34)).drew).ownsRow N 34 2 (.slice (some ⟨w7.heap.size, 0, none⟩) 1 1) 1 [.slice ua nu uc, .slice ha nh hcp] from owns_laid w7 #[.slice ua nu uc, .slice ha nh hcp] 34 N 1 2 HSZ7.out rfl (by unfold maxLen; omega))
                    have HR8 := Lib.hid (HR1.out.below HML.out.below)
                    have hm1 : 1 + n1 ≤ maxLen := by have := HNS.out; unfold maxLen; omega
                    have hm2 : (1 + n1) * 48 ≤ 140737488355328 := by have := HNS.out; omega
                    have hb7 : N ≤ ((w7.alloc (.cells #[.slice ua nu uc, .slice ha nh hcp] 34)).drew).heap.size := Nat.le_trans HSZ7.out HML.out.size
                    go_upto_region 12 with (fail)
                    go_region_held3 (fun W => W.cell? ⟨XB, 0, none⟩ = some (.slice ua nu uc) ∧ W.cell? ⟨XB, 1, none⟩ = some (.slice ha nh hcp)) (first | with_reducible exact ⟨s0, s1⟩ | with_reducible exact ⟨allocd_cell (a := ⟨XB, 0, none⟩) _ x0, allocd_cell (a := ⟨XB, 1, none⟩) _ x1⟩ | with_reducible exact ⟨y0, y1⟩)
                      (first | (refine step_append_rowC (by rfl) _ _ _ (by rfl) N 34 i0 _ 2 48 Tryz.underlying25 hi0 hz0 hz1 hz2 (by rfl) (by omega) (.slice (some ⟨w7.heap.size, 0, none⟩) 1 1) 1 [.slice ua nu uc, .slice ha nh hcp] (by rfl) HOL.out (.slice ga2 n1 c1) n1 (flatC qC (A.drop t)) (by rfl) HR8.out HN1.out HO1.out hm1 hm2 hb7 ?_; intro v8 w8 hown8 hgrow8; obtain ⟨g8, cp8, rfl, _, _⟩ := hown8.form (by omega); have y0 := World.grownBy.cell hgrow8 (allocd_cell (a := ⟨XB, 0, none⟩) _ x0) (fun e => (by have h9 := blk_lt HXB7.out; have e9 : XB = w7.heap.size := Option.some.inj e; omega)); have y1 := World.grownBy.cell hgrow8 (allocd_cell (a := ⟨XB, 1, none⟩) _ x1) (fun e => (by have h9 := blk_lt HXB7.out; have e9 : XB = w7.heap.size := Option.some.inj e; omega)); have HO8 := Lib.hid hown8; have HG8 := Lib.hid hgrow8; clear hown8 hgrow8))
                    all_goals
                      clear s0 s1 x0 x1 y0 y1 hm1 hm2 hb7 hs1
                      have HB8 := Lib.hid (show Below N w w8 from (HB7.out.trans (HML.out.below.mono HSZ7.out)).grown HG8.out (Nat.le_trans HSZ7.out HML.out.size) (fun z hz => by have e9 : w7.heap.size = z := Option.some.inj hz; have := HSZ7.out; omega))
                      have HSZ8 := Lib.hid (show N ≤ w8.heap.size from Nat.le_trans HSZ7.out (Nat.le_trans HML.out.size HG8.out.size))
                      have HR28 := Lib.hid (show Row anyB w8 2 t (.slice ga t gcp) (flatC qC (A.take t)) from ((HR2.out.lt (by omega)).mono (S' := anyB) (fun _ _ => trivial) (fun b off x hb hc => by
                        rw [← hc]
                        have h1 : b < w7.heap.size := hb.2
                        exact World.cell?_of_block (w := w7) (a := ⟨b, off, none⟩) ((HG8.out.block b (Nat.lt_of_lt_of_le h1 HML.out.size) (fun e => by have e9 : b = w7.heap.size := Option.some.inj e; omega)).trans (HML.out.block h1)))))
                      obtain ⟨N3, HN3⟩ : ∃ N3, Hid (N3 = w8.heap.size) := ⟨_, Lib.hid rfl⟩
                      have HOE := Lib.hid (show (w8.alloc (.cells #[] 34)).ownsRow N3 34 2 (.slice (some ⟨w8.heap.size, 0, none⟩) 0 0) 0 [] by rw [HN3.out]; exact ownsRow_empty w8 34 2)
                      have HME := Lib.hid (more_alloc w8 (.cells #[] 34))
                      have HR29 := Lib.hid (HR28.out.below HME.out.below)
                      have HRST := Lib.hid (fun (W : World) (hW : ∀ b, b < N3 → W.heap[b]? = w8.heap[b]?) => (show Row anyB W 2 (1 + n1) (.slice (some ⟨g8, 0, none⟩) (1 + n1) cp8) ([.slice ua nu uc, .slice ha nh hcp] ++ flatC qC (A.drop t)) from ((Row.of_owns HO8.out).mono (S' := anyB) (fun _ _ => trivial) (fun _ _ _ _ h => h) |> fun r => ((r.lt (by omega)).mono (S' := anyB) (fun _ _ => trivial) (fun b off x hb hc => by
                        rw [← hc]
                        exact World.cell?_of_block (w := w8) (a := ⟨b, off, none⟩) (hW b (by rw [HN3.out]; exact hb.2)))))))
                      have HNR := Lib.hid (owns_nil HO8.out)
                      have hm3 : 0 + t ≤ maxLen := by unfold maxLen; omega
                      have hm4 : (0 + t) * 48 ≤ 140737488355328 := by omega
                      have hb3 : N3 ≤ (w8.alloc (.cells #[] 34)).heap.size := by rw [HN3.out, World.size_alloc]; omega
                      have HON2 := Lib.hid (show ∀ u ∈ [Value.slice ua nu uc, .slice ha nh hcp] ++ flatC qC (A.drop t), u.oneCell' = true from fun u hu => by
                        rcases List.mem_append.1 hu with h1 | h1
                        · simp only [List.mem_cons, List.not_mem_nil, or_false] at h1; rcases h1 with rfl | rfl <;> rfl
                        · exact HO1.out u h1)
                      have hnb := HNS.out
                      go_wp2_with (at_builtin; first
                        | (refine wpList_append_rowC rfl _ _ 25 rfl N3 34 i0 _ 2 48 Tryz.underlying25 hi0 hz0 hz1 hz2 rfl (by omega) (.slice (some ⟨w8.heap.size, 0, none⟩) 0 0) 0 [] rfl HOE.out (.slice ga t gcp) t (flatC qC (A.take t)) rfl HR29.out HN2.out HO2.out hm3 hm4 hb3 ?_; intro v10 w10 hown10 hgrow10; have HK10 := Lib.hid (show ∀ b, b < N3 → w10.heap[b]? = w8.heap[b]? from fun b hb => (hgrow10.block b (by have := HME.out.size; have := HN3.out; omega) (fun e => (by have e9 : b = w8.heap.size := Option.some.inj e; have := HN3.out; omega))).trans (HME.out.block (by rw [← HN3.out]; exact hb))); have HR10 := Lib.hid (HRST.out w10 HK10.out); have hb10 : N3 ≤ w10.heap.size := Nat.le_trans hb3 hgrow10.size; have hm5 : 0 + t + (1 + n1) ≤ maxLen := (by unfold maxLen; omega); have hm6 : (0 + t + (1 + n1)) * 48 ≤ 140737488355328 := (by omega))
                        | (refine wpList_append_rowC rfl _ _ 25 rfl N3 34 i0 _ 2 48 Tryz.underlying25 hi0 hz0 hz1 hz2 rfl (by omega) v10 (0 + t) ([] ++ flatC qC (A.take t)) rfl hown10 (.slice (some ⟨g8, 0, none⟩) (1 + n1) cp8) (1 + n1) ([.slice ua nu uc, .slice ha nh hcp] ++ flatC qC (A.drop t)) rfl HR10.out HNR.out HON2.out hm5 hm6 hb10 ?_; intro v11 w11 hown11 hgrow11))
                      have HZ10 := Lib.hid (fun z hz => (hown10.lt z hz).1)
                      rw [Nat.zero_add, List.nil_append] at hown11
                      have HO11 := Lib.hid (show w11.ownsRow N 34 2 v11 (A.take t ++ ((.slice ua nu uc, .slice ha nh hcp, qc) : CV) :: A.drop t).length (flatC qC (A.take t ++ (.slice ua nu uc, .slice ha nh hcp, qc) :: A.drop t)) by
                        rw [HLX.out, ← HFX.out]
                        exact owns_base hown11 (by rw [HN3.out]; exact HSZ8.out))
                      have HB11 := Lib.hid (show Below N w w11 from (((HB8.out.alloc HSZ8.out (.cells #[] 34)).grown hgrow10 (Nat.le_trans HSZ8.out HME.out.size) (fun z hz => by have e9 : w8.heap.size = z := Option.some.inj hz; have := HSZ8.out; omega)).grown hgrow11 (by have := HSZ8.out; have := HN3.out; omega) (fun z hz => by have := HZ10.out z hz; have := HSZ8.out; have := HN3.out; omega)))
                      clear hown10 hown11 hgrow10 hgrow11 hm3 hm4 hm5 hm6 hb3 hb10
                      go_wp2_with fail
                      go_roundw
                      case rel => exact ⟨k + 1, _, by omega, by go_num, HA9, HO11, HB11, Lib.hid (by rw [HLY.out]; have := HAL.out; omega)⟩
                      case measure => simp [intOf]; omega
            · obtain rfl : k = pl.length := by omega
              rw [List.take_of_length_le (Nat.le_refl _), ← HPT.out] at HA
              clear hlt2 hk
              have hlt9 := HLT.out
              go_wp2_with fail
              go_roundw
              case rel => exact ⟨j + 1, A, by have := HLT.out; omega, by go_num, HA, HO, HB, Lib.hid (by have := HAL.out; omega)⟩
              case measure => have := HLT.out; simp [intOf]; omega
        · obtain rfl : j = ls.length := by omega
          clear hlt hj
          go_wp2_with fail
          go_meet
          exact ⟨A, HA, HO, HB, Lib.hid (by have := HAL.out; omega)⟩
  case rest =>
    as_aux_lemma =>
      obtain ⟨A, HA, HO, HB, HAL⟩ := hcut
      obtain ⟨w1, rfl⟩ : ∃ w1 : World, w1 = wc := ⟨_, rfl⟩
      obtain ⟨ga, gcp, rfl, _⟩ := owns_shape HO.out
      have HBW := Lib.hid (show Below w.heap.size w w1 by have := HB.out; rw [HN.out] at this; exact this)
      have HEV := Lib.hid (show ∀ a ∈ A, CauAt w1 a.2.2 a.1 a.2.1 from fun a ha => by
        have hm := HA.out.sub a ha
        unfold preV at hm
        obtain ⟨p, hp, hq⟩ := List.mem_flatMap.1 hm
        exact CauAt.below (HLS.out.each p (List.mem_of_mem_take hp) a hq) HBW.out)
      have HRA := Lib.hid ((Row.of_owns HO.out).mono (S' := anyB) (fun _ _ => trivial) (fun _ _ _ _ h => h))
      have HNA := Lib.hid (owns_nil HO.out)
      clear i0 hi0 hz0 hz1 hz2
      obtain ⟨i0, hi0, hz0, hz1, hz2⟩ := info_parts infoI
      obtain ⟨i1, hi1, hy0, hy1, hy2⟩ := info_parts infoL
      obtain ⟨N2, HN2⟩ : ∃ N2, Hid (N2 = w1.heap.size) := ⟨_, Lib.hid rfl⟩
      have hal : A.length ≤ 36 := HAL.out
      clear HO HB
      go_wp2_with fail
      go_loopw [11, 73] (fun o i wr => ∃ (j : Nat) (I : List NV), j ≤ ls.length ∧ i = .int .i64 j ∧ Hid (I.map (·.2) = (ls.take j).map (fun p => posL A p.2)) ∧ Hid (AllN N2 wr o I) ∧ Hid (Below N2 w1 wr) ∧ Hid (I.length = j)) (fun _ i _ => ls.length - (intOf i).toNat)
      case atStart => exact ⟨0, [], Nat.zero_le _, rfl, Lib.hid rfl, Lib.hid (AllN.nil _ _), Lib.hid (Below.refl _ _), Lib.hid rfl⟩
      case round =>
        obtain ⟨j, I, hj, rfl, HI, HAN, HB, HIL⟩ := hrel
        obtain ⟨oa, oc, rfl, HOZ⟩ := owns_shape HAN.out.own
        have HMW := Lib.hid (show More w1 wr from by have := HB.out; rw [HN2.out] at this; exact more_of this)
        have HM0 := Lib.hid (more_trans (more_of HBW.out) HMW.out)
        by_cases hlt : j < ls.length
        · obtain ⟨b, off, rfl, _, hc⟩ := HLS.out.row.atC lC_len hlt
          have g0 := HM0.out.cell (hc 0 ls[j].1 rfl)
          rw [Nat.add_zero, Nat.mul_one] at g0
          clear hc
          have HTK := Lib.hid (show (ls.take (j + 1)).map (fun p => posL A p.2) = (ls.take j).map (fun p => posL A p.2) ++ [posL A ls[j].2] by rw [List.take_succ_eq_append_getElem hlt, List.map_append]; rfl)
          have HIN := Lib.hid (HLS.out.inner _ (List.getElem_mem hlt))
          have HEA := Lib.hid (HLS.out.each _ (List.getElem_mem hlt))
          have hln := H66.out _ (List.getElem_mem hlt)
          have HLT := Lib.hid hlt
          generalize ls[j] = p at *
          obtain ⟨pv, pl⟩ := p
          dsimp only at *
          obtain ⟨pa, pc, rfl, _⟩ := HIN.out.shape
          have hbg := cell_lt g0
          obtain ⟨wo, rfl⟩ : ∃ wo : World, wo = wr := ⟨_, rfl⟩
          obtain ⟨N3, HN3⟩ : ∃ N3, Hid (N3 = wo.heap.size) := ⟨_, Lib.hid rfl⟩
          have HOE := Lib.hid (show (wo.alloc (.cells #[] 3)).ownsRow N3 3 1 (.slice (some ⟨wo.heap.size, 0, none⟩) 0 0) 0 [] by rw [HN3.out]; exact ownsRow_empty wo 3 1)
          have HBE := Lib.hid (show Below N3 wo (wo.alloc (.cells #[] 3)) from (Below.refl _ _).alloc (by rw [HN3.out]; exact Nat.le_refl _) _)
          have hlt9 := hlt
          go_wp2_with fail
          go_loopw [14, 80] (fun n i wx => ∃ (k : Nat) (L : List Nat), k ≤ pl.length ∧ i = .int .i64 k ∧ Hid (L = posL A (pl.take k)) ∧ Hid (wx.ownsRow N3 3 1 n L.length (flatC nC L)) ∧ Hid (Below N3 wo wx) ∧ Hid (L.length ≤ 36 * k)) (fun _ i _ => pl.length - (intOf i).toNat)
          case atStart => exact ⟨0, [], Nat.zero_le _, rfl, Lib.hid rfl, HOE, HBE, Lib.hid (Nat.zero_le _)⟩
          case round =>
            obtain ⟨k, L, hk, rfl, HL, HO, HB3, HLL⟩ := hrel
            have HMO := Lib.hid (show More wo wr from by have := HB3.out; rw [HN3.out] at this; exact more_of this)
            by_cases hlt2 : k < pl.length
            · obtain ⟨b2, off2, hab, _, hc⟩ := HIN.out.atC qC_len hlt2
              subst hab
              have HM2 := Lib.hid (more_trans HM0.out HMO.out)
              have e0 := HM2.out.cell (hc 0 pl[k].1 rfl)
              have e1 := HM2.out.cell (hc 1 pl[k].2.1 rfl)
              rw [Nat.add_zero] at e0
              clear hc
              have HPK := Lib.hid (show posL A (pl.take (k + 1)) = posL A (pl.take k) ++ posV A (keyC pl[k].2.2) A.length by rw [List.take_succ_eq_append_getElem hlt2]; exact posL_push A _ _)
              have HEQ := Lib.hid (CauAt.more (HEA.out _ (List.getElem_mem hlt2)) HM2.out)
              have HE0 := Lib.hid (HEA.out _ (List.getElem_mem hlt2))
              have HLT2 := Lib.hid hlt2
              generalize pl[k] = q at *
              obtain ⟨qu, qh, qc⟩ := q
              dsimp only at *
              obtain ⟨ua, uc, rfl, _⟩ := HEQ.out.ru.shape
              obtain ⟨ha, hcp, rfl, _⟩ := HEQ.out.rh.shape
              have hbe := cell_lt e0
              have HXB := Lib.hid (alloc_last wr (.cells #[.slice ua qc.undo.length uc, .slice ha qc.hold.length hcp] 34))
              have HM5 := Lib.hid (more_alloc wr (.cells #[.slice ua qc.undo.length uc, .slice ha qc.hold.length hcp] 34))
              have HO5 := Lib.hid (HO.out.alloc (.cells #[.slice ua qc.undo.length uc, .slice ha qc.hold.length hcp] 34))
              have HB5 := Lib.hid (show Below N3 wo (wr.alloc (.cells #[.slice ua qc.undo.length uc, .slice ha qc.hold.length hcp] 34)) from HB3.out.alloc (by have := HB3.out.size; have := HN3.out; omega) _)
              have HQ0 := Lib.hid (show CauAt wo qc (.slice ua qc.undo.length uc) (.slice ha qc.hold.length hcp) from CauAt.more HE0.out HM0.out)
              generalize qc.undo.length = nu at *
              generalize qc.hold.length = nh at *
              obtain ⟨na, ncp, rfl, _⟩ := owns_shape HO.out
              go_upto_region 24 with (fail)
              obtain ⟨XB, HXE⟩ : ∃ XB, Hid (XB = wr.heap.size) := ⟨_, Lib.hid rfl⟩
              rw [← HXE.out] at HXB ⊢
              generalize wr.alloc (.cells #[.slice ua nu uc, .slice ha nh hcp] 34) = w5 at *
              clear e0 e1 hbe HO HEQ
              have hk9 := HLT2.out
              have hl9 : L.length ≤ 216 := by have := HLL.out; omega
              obtain ⟨w5', rfl⟩ : ∃ w5' : World, w5' = w5 := ⟨_, rfl⟩
              obtain ⟨wq, rfl⟩ : ∃ wq : World, wq = wr := ⟨_, rfl⟩
              go_wp2_with fail
              go_loopw [14, 86] (fun n i wx => ∃ (t : Nat) (L' : List Nat), t ≤ A.length ∧ i = .int .i64 t ∧ Hid (L' = L ++ posV A (keyC qc) t) ∧ Hid (wx.ownsRow N3 3 1 n L'.length (flatC nC L')) ∧ Hid (Below N3 wo wx) ∧ Hid (L'.length ≤ L.length + t) ∧ Hid (wx.heap[XB]? = some (.cells #[.slice ua nu uc, .slice ha nh hcp] 34))) (fun _ i _ => A.length - (intOf i).toNat)
              case atStart => exact ⟨0, L, Nat.zero_le _, rfl, Lib.hid (by simp [posV]), HO5, HB5, Lib.hid (Nat.le_refl _), HXB⟩
              case round =>
                obtain ⟨t, L', ht, rfl, HL', HO', HB', HLL', HXB'⟩ := hrel
                have HMR := Lib.hid (show More wo wr from by have := HB'.out; rw [HN3.out] at this; exact more_of this)
                have HM1R := Lib.hid (more_trans HMW.out HMR.out)
                by_cases hta : t < A.length
                · obtain ⟨b3, off3, hga, _, hc⟩ := HRA.out.atC qC_len hta
                  subst hga
                  have e0 := HM1R.out.cell (hc 0 A[t].1 rfl)
                  have e1 := HM1R.out.cell (hc 1 A[t].2.1 rfl)
                  rw [Nat.add_zero] at e0
                  clear hc
                  have HAT := Lib.hid (CauAt.more (HEV.out _ (List.getElem_mem hta)) HM1R.out)
                  have HQR := Lib.hid (show CauAt wr qc (.slice ua nu uc) (.slice ha nh hcp) from CauAt.more HQ0.out HMR.out)
                  have HPV := Lib.hid (show posV A (keyC qc) (t + 1) = posV A (keyC qc) t ++ if decide (keyC A[t].2.2 = keyC qc) then [t] else [] from posV_push A (keyC qc) t hta)
                  have HTA := Lib.hid hta
                  generalize A[t] = a at *
                  obtain ⟨au, ah, ac⟩ := a
                  dsimp only at *
                  obtain ⟨aua, auc, rfl, _⟩ := HAT.out.ru.shape
                  obtain ⟨aha, ahc, rfl, _⟩ := HAT.out.rh.shape
                  have HLE := Lib.hid (fun W (hW : More wr W) => equalCause_any ac qc _ _ (.slice ua nu uc) (.slice ha nh hcp) W (CauAt.more HAT.out hW) (CauAt.more HQR.out hW))
                  rw [eqV] at HLE
                  generalize decide (keyC ac = keyC qc) = z at *
                  generalize ac.undo.length = n1 at *
                  generalize ac.hold.length = n2 at *
                  have HK := Lib.hid (show ∀ W, More wr W → (W.cell? ⟨b3, off3 + t * 2, none⟩ = some (.slice aua n1 auc) ∧ W.cell? ⟨b3, off3 + t * 2 + 1, none⟩ = some (.slice aha n2 ahc) ∧ W.cell? ⟨XB, 0, none⟩ = some (.slice ua nu uc) ∧ W.cell? ⟨XB, 1, none⟩ = some (.slice ha nh hcp)) from fun W h => ⟨h.cell e0, h.cell e1, h.cell (cell_of_blk HXB'.out rfl), h.cell (cell_of_blk HXB'.out rfl)⟩)
                  clear e0 e1
                  have HL0 := Lib.hid (more_drew wr)
                  have jz1 : (t : Int) < (A.length : Int) := by omega
                  obtain ⟨na2, nc2, rfl, _⟩ := owns_shape HO'.out
                  have hta9 := HTA.out
                  have hk8 := HLT2.out
                  have hl8 : L'.length ≤ 300 := by have := HLL'.out; omega
                  go_upto_region 27 with (fail)
                  go_region_held3 (fun W => W.cell? ⟨b3, off3 + t * 2, none⟩ = some (.slice aua n1 auc) ∧ W.cell? ⟨b3, off3 + t * 2 + 1, none⟩ = some (.slice aha n2 ahc) ∧ W.cell? ⟨XB, 0, none⟩ = some (.slice ua nu uc) ∧ W.cell? ⟨XB, 1, none⟩ = some (.slice ha nh hcp)) (first | with_reducible exact HK.out _ HL0.out) (first | (go_at_call 10; refine (HLE.out _ HL0.out).mono ?_; rintro e w9 ⟨rfl, hm9⟩; have HL0 := Lib.hid (more_trans HL0.out hm9); clear hm9))
                  all_goals
                    rename_i w9 hS
                    clear hS
                    have HO9 := Lib.hid (owns_keep HO'.out (fun zz hz => HL0.out.block (HO'.out.lt zz hz).2))
                    have HSZ9 := Lib.hid (show N3 ≤ wr.heap.size by have := HB'.out.size; have := HN3.out; omega)
                    have HB9 := Lib.hid (show Below N3 wo w9 from HB'.out.trans (HL0.out.below.mono HSZ9.out))
                    have HXB9 := Lib.hid ((HL0.out.block (blk_lt HXB'.out)).trans HXB'.out)
                    cases z with
                    | false =>
                      have HL9 := Lib.hid (show L' = L ++ posV A (keyC qc) (t + 1) by rw [HPV.out, HL'.out]; simp)
                      go_wp2_with fail
                      go_roundw
                      case rel => exact ⟨t + 1, L', by omega, by go_num, HL9, HO9, HB9, Lib.hid (by have := HLL'.out; omega), HXB9⟩
                      case measure => simp [intOf]; omega
                    | true =>
                      have HL9 := Lib.hid (show L' ++ [t] = L ++ posV A (keyC qc) (t + 1) by rw [HPV.out, HL'.out, List.append_assoc]; rfl)
                      have HLN := Lib.hid (show (L' ++ [t]).length = L'.length + 1 by rw [List.length_append, List.length_singleton])
                      have hm1 : L'.length + 1 ≤ maxLen := by unfold maxLen; omega
                      have hm2 : (L'.length + 1) * 8 ≤ 140737488355328 := by omega
                      have HO10 := Lib.hid (HO9.out.alloc (.cells #[.int .i64 (t : Int)] 3))
                      have HOZ9 := Lib.hid (fun z hz => (HO9.out.lt z hz))
                      have HNX := Lib.hid (owns_ne HO9.out HXB9.out (by decide))
                      have HS9 := Lib.hid (show N3 ≤ w9.heap.size from Nat.le_trans HSZ9.out HL0.out.size)
                      go_wp2_with (at_builtin; refine wpList_append_lies _ rfl _ _ 28 rfl N3 3 i0 _ 1 8 Tryz.underlying28 hi0 hz0 hz1 hz2 rfl (by omega) (.slice na2 L'.length nc2) L'.length (flatC nC L') rfl HO10.out ⟨w9.heap.size, 0, none⟩ 1 1 [.int .i64 (t : Int)] rfl rfl (World.news_of_block (cs := #[.int .i64 (t : Int)]) (t := 3) (fr := (0, 0)) (alloc_last _ _)) (by simp [Value.oneCell']) (by omega) hm1 hm2 (by rw [World.size_alloc]; exact Nat.le_succ_of_le HS9.out) (w9.heap.size + 1) (by simp) ?_; intro gg cap8 w10 hown8 hgrow8 hat8 _)
                      have HO11 := Lib.hid (show w10.ownsRow N3 3 1 (.slice (some ⟨gg, 0, none⟩) (L'.length + 1) cap8) (L' ++ [t]).length (flatC nC (L' ++ [t])) by rw [HLN.out, flatC_push]; exact hown8)
                      have HB10 := Lib.hid (show Below N3 wo w10 from (HB9.out.alloc HS9.out _).grown hgrow8 (by rw [World.size_alloc]; exact Nat.le_succ_of_le HS9.out) (fun z hz => (HOZ9.out z hz).1))
                      have HXB10 := Lib.hid ((hgrow8.block XB (by rw [World.size_alloc]; exact Nat.lt_succ_of_lt (blk_lt HXB9.out)) (fun e => HNX.out e.symm)).trans ((Below.heap_alloc w9 _ XB (blk_lt HXB9.out)).trans HXB9.out))
                      clear hown8 hgrow8 hat8
                      go_wp2_with fail
                      go_roundw
                      case rel => exact ⟨t + 1, L' ++ [t], by omega, by go_num, HL9, HO11, HB10, Lib.hid (by rw [HLN.out]; have := HLL'.out; omega), HXB10⟩
                      case measure => simp [intOf]; omega
                · obtain rfl : t = A.length := by omega
                  have HL9 := Lib.hid (show L' = posL A (pl.take (k + 1)) by rw [HPK.out, HL'.out, HL.out])
                  clear hta ht
                  go_wp2_with fail
                  go_roundw
                  case rel => exact ⟨k + 1, L', by omega, by go_num, HL9, HO', HB', Lib.hid (by have := HLL'.out; have := HLL.out; omega)⟩
                  case measure => simp [intOf]; omega
            · obtain rfl : k = pl.length := by omega
              rw [List.take_of_length_le (Nat.le_refl _)] at HL
              clear hlt2 hk
              obtain ⟨na, nc, rfl, HNZ⟩ := owns_shape HO.out
              have hj9 := HLT.out
              have hil : I.length ≤ 6 := by have := HIL.out; omega
              have hll : L.length ≤ 216 := by have := HLL.out; omega
              have HANW := Lib.hid ((HAN.out.more HMO.out).more (more_alloc wr (.cells #[.slice na L.length nc] 28)))
              have HRN := Lib.hid (show Row (fun b => (Value.slice oa I.length oc).ownBlock ≠ some b) (wr.alloc (.cells #[.slice na L.length nc] 28)) 1 L.length (.slice na L.length nc) (flatC nC L) from ((Row.of_owns HO.out).lt (by omega)).mono (fun b hb e => by
                have h1 := (HOZ b e).2
                have h2 : N3 ≤ b := hb.1
                have := HN3.out
                omega) (fun b off x hb hc => by rw [← hc]; exact World.cell?_of_block (w := wr) (a := ⟨b, off, none⟩) ((more_alloc wr _).block hb.2)))
              have HSZR := Lib.hid (show N2 ≤ wr.heap.size by have h1 := HB.out.size; have h2 := HMO.out.size; have := HN2.out; omega)
              have HBR := Lib.hid (show Below N2 w1 wr from HB.out.trans (HMO.out.below.mono (by have h1 := HB.out.size; have := HN2.out; omega)))
              have hm1 : I.length + 1 ≤ maxLen := by unfold maxLen; omega
              have hm2 : (I.length + 1) * 24 ≤ 140737488355328 := by omega
              have HI9 := Lib.hid (show (I ++ [((.slice na L.length nc, L) : NV)]).map (·.2) = (ls.take (j + 1)).map (fun p => posL A p.2) by rw [List.map_append, HI.out, HTK.out, HL.out]; rfl)
              have HIL9 := Lib.hid (show (I ++ [((.slice na L.length nc, L) : NV)]).length = j + 1 by rw [List.length_append, List.length_singleton, HIL.out])
              have HOZ2 := Lib.hid HOZ
              go_wp2_with (at_builtin; refine wpList_append_lies _ rfl _ _ 43 rfl N2 28 i1 _ 1 24 Tryz.underlying43 hi1 hy0 hy1 hy2 rfl (by omega) (.slice oa I.length oc) I.length (flatC lN I) rfl HANW.out.own ⟨wr.heap.size, 0, none⟩ 1 1 [.slice na L.length nc] rfl rfl (World.news_of_block (cs := #[.slice na L.length nc]) (t := 28) (fr := (0, 0)) (alloc_last _ _)) (by simp [Value.oneCell']) (by omega) hm1 hm2 (by rw [World.size_alloc]; exact Nat.le_succ_of_le HSZR.out) (wr.heap.size + 1) (by simp) ?_; intro gg cap8 w8 hown8 hgrow8 hat8 _)
              have HAN8 := Lib.hid (HANW.out.push (p := (.slice na L.length nc, L)) HRN.out hown8 hgrow8 (fun z hz => by
                have hz' : gg = z := by simpa [Value.ownBlock] using hz
                subst hz'
                rcases hat8 with h | h
                · exact Or.inl h
                · right; rw [h]; simp))
              have HB8 := Lib.hid (show Below N2 w1 w8 from (HBR.out.alloc HSZR.out _).grown hgrow8 (by rw [World.size_alloc]; exact Nat.le_succ_of_le HSZR.out) (fun z hz => (HOZ2.out z hz).1))
              clear hown8 hgrow8 hat8
              go_wp2_with fail
              go_roundw
              case rel => exact ⟨j + 1, I ++ [(.slice na L.length nc, L)], by omega, by go_num, HI9, HAN8, HB8, HIL9⟩
              case measure => simp [intOf]; omega
        · obtain rfl : j = ls.length := by omega
          rw [List.take_of_length_le (Nat.le_refl _)] at HI
          go_wp2_with fail
          refine bodyPost_ret (v := .tuple #[.slice ga A.length gcp, .slice oa I.length oc]) (by simp [results, Tryz.results12, go_sem]) rfl ?_
          refine ⟨⟨A, I, _, _, rfl, HA.out, hal, HRA.out.below HMW.out.below, fun a ha => CauAt.more (HEV.out a ha) HMW.out, HNA.out, HI.out, (Row.of_owns HAN.out.own).mono (fun _ _ => trivial) (fun _ _ _ _ h => h), fun p hp => (HAN.out.ent p hp).mono (fun _ _ => trivial) (fun _ _ _ _ h => h)⟩, ?_⟩
          exact HM0.out.below
end Go.Proofs.YtemeppfikpafbaaGreat

