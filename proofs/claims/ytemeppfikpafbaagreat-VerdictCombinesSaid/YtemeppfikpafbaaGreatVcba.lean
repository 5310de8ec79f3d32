/- Texts RefW, laid together. -/
import Derived.Deep.QuietTactic
import Derived.BigQuiet
import Derived.Deep.CutBlock
import Derived.Test.YtemeppfikpafbaaGreatVcx
/- The reference's Combine (13): the walk. -/
namespace Go.Proofs.YtemeppfikpafbaaGreat
open Go.RowKit
set_option maxRecDepth 100000 in
set_option maxHeartbeats 4000000 in
theorem ref13_any (I : List NV) (v : Value) (bd : Nat) (cb : Bool) (w : World) (hl : I.length ≤ 6) (hb : bd ≤ 36) (h : Row anyB w 1 I.length v (flatC lN I)) (hin : ∀ p ∈ I, Row anyB w 1 p.2.length p.1 (flatC nC p.2)) (hln : ∀ p ∈ I, p.2.length ≤ 1000) :
    Calls Tryz.prog 13 #[v, .int .i64 bd, .bool cb] w fun e w' => (∃ (L : List RTd) (v' : Value), e = .returned v' ∧ RfL (I.map (·.2)) cb bd L ∧ Row anyB w' 4 L.length v' (flatC rC L)) ∧ Below w.heap.size w w' := by
  obtain ⟨va, vc, rfl, _⟩ := h.shape
  have HR := Lib.hid h
  have HIN := Lib.hid hin
  have HLN := Lib.hid hln
  have HL6 := Lib.hid hl
  clear h hin hln hl
  obtain ⟨i0, hi0, hz0, hz1, hz2⟩ := info_parts infoR
  obtain ⟨N, HN⟩ : ∃ N, Hid (N = w.heap.size) := ⟨_, Lib.hid rfl⟩
  obtain ⟨o, HOL⟩ : ∃ o, Hid (I.length = o) := ⟨_, Lib.hid rfl⟩
  obtain ⟨ns, HNS⟩ : ∃ ns, Hid (I.map (·.2) = ns) := ⟨_, Lib.hid rfl⟩
  have HNL := Lib.hid (show ns.length = o by rw [← HNS.out, List.length_map]; exact HOL.out)
  have HC28 := Lib.hid (fun x (hx : x ≤ 1000) (W : World) (hW : More w W) => count28_any I (.slice va I.length vc) x W HL6.out hx (HR.out.below hW.below) (fun p hp => (HIN.out p hp).below hW.below) HLN.out)
  rw [HNS.out, HOL.out] at HC28
  rw [HNS.out]
  rw [HOL.out] at HL6 ⊢
  clear HR HIN HLN
  go_enter Tryz.func13, Tryz.ntmps13
  go_wp2_with fail
  go_loopw [7, 8] (fun u i wr => ∃ (x : Nat) (L : List RTd), x ≤ bd ∧ i = .int .i64 x ∧ Hid (RfL ns cb x L) ∧ Hid (wr.ownsRow N 77 4 u L.length (flatC rC L)) ∧ Hid (Below N w wr)) (fun _ i _ => bd - (intOf i).toNat)
  case atStart => exact ⟨0, [], Nat.zero_le _, rfl, Lib.hid (RfL.nil _ _), Lib.hid (World.ownsRow_nil _ _ _ _), Lib.hid (Below.refl _ _)⟩
  case round =>
    obtain ⟨x, L, hx, rfl, HA, HO, HB⟩ := hrel
    have HMW := Lib.hid (show More w wr from by have := HB.out; rw [HN.out] at this; exact more_of this)
    by_cases hlt : x < bd
    · have HCA := Lib.hid (HC28.out x (by omega) wr HMW.out)
      obtain ⟨n, HNE⟩ : ∃ n, Hid (cntN ns x = n) := ⟨_, Lib.hid rfl⟩
      rw [HNE.out] at HCA
      by_cases hn0 : n = 0
      · subst hn0
        have HA9 := Lib.hid (HA.out.skip HNE.out)
        go_wp2_with (go_at_call 28; refine HCA.out.mono ?_; rintro e w9 ⟨rfl, rfl⟩)
        go_roundw
        case rel => exact ⟨x + 1, L, by omega, by go_num, HA9, HO, HB⟩
        case measure => simp [intOf]; omega
      · have hn1 : ((n : Int) == 0) = false := beq_eq_false_iff_ne.2 (by omega)
        have HPOS := Lib.hid (show 0 < cntN ns x by rw [HNE.out]; omega)
        clear hn0
        obtain ⟨ga, gcp, rfl, _⟩ := owns_shape HO.out
        have HAL := Lib.hid HA.out.len
        by_cases hno : n = o
        · have hq : ((n : Int) == (o : Int)) = true := by simp [hno]
          cases cb with
          | true =>
            obtain ⟨r, HRE⟩ : ∃ r, Hid (mkR ns true x = r ∧ r = ⟨x, 1, n, o⟩) := ⟨_, Lib.hid ⟨rfl, by unfold mkR; rw [HNE.out, HNL.out, if_pos hno]; rfl⟩⟩
            clear hno
            have HIS := Lib.hid (show ∀ t, t ≤ L.length → (∀ j (hj : j < L.length), t ≤ j → befR r L[j] = true) → (∀ j (hj : j < L.length), j + 1 = t → befR r L[j] = false) → RfL ns true (x + 1) (L.take t ++ r :: L.drop t) from fun t ht hr hl => by
              have h := HA.out.ins HPOS.out ht (by rw [HRE.out.1]; exact hr) (by rw [HRE.out.1]; exact hl)
              rw [HRE.out.1] at h
              exact h)
            have HXB := Lib.hid (alloc_last wr (.cells #[.int .i64 x, .int .i64 1, .int .i64 n, .int .i64 o] 77))
            have HM5 := Lib.hid (more_alloc wr (.cells #[.int .i64 x, .int .i64 1, .int .i64 n, .int .i64 o] 77))
            have hbx : wr.heap.size < (wr.alloc (.cells #[.int .i64 x, .int .i64 2, .int .i64 n, .int .i64 o] 77)).heap.size := blk_lt (alloc_last wr _)
            obtain ⟨wo, HWO⟩ : ∃ wo, Hid (wo = wr) := ⟨_, Lib.hid rfl⟩
            go_upto_region 12 with (go_at_call 28; refine HCA.out.mono ?_; rintro e w9 ⟨rfl, he9⟩; rw [he9]; clear he9)
            clear hbx HWO
            obtain ⟨XB, HXE⟩ : ∃ XB, Hid (XB = wr.heap.size) := ⟨_, Lib.hid rfl⟩
            rw [← HXE.out] at HXB ⊢
            generalize wr.alloc (.cells #[.int .i64 x, .int .i64 1, .int .i64 n, .int .i64 o] 77) = w5 at *
            have HXR := Lib.hid (show w5.heap[XB]? = some (.cells (rC r).toArray 77) from by rw [HRE.out.2]; exact HXB.out)
            clear HXB HRE
            have HB5 := Lib.hid (show Below N w w5 from HB.out.trans (HM5.out.below.mono (by have := HB.out.size; rw [HN.out]; exact this)))
            have HO5 := Lib.hid (owns_keep HO.out (fun z hz => HM5.out.block (HO.out.lt z hz).2))
            have HSZ := Lib.hid (show N ≤ w5.heap.size by have := HB5.out.size; rw [HN.out]; exact this)
            clear HB HO HM5 HMW HCA HC28
            obtain ⟨rx, rs, ri, ro⟩ := r
            have HXB := Lib.hid (show w5.heap[XB]? = some (.cells #[.int .i64 (rx : Int), .int .i64 rs, .int .i64 ri, .int .i64 ro] 77) from HXR.out)
            clear HXR
            obtain ⟨w5', rfl⟩ : ∃ w5' : World, w5' = w5 := ⟨_, rfl⟩
            have hal9 : L.length ≤ 36 := by have := HAL.out; omega
            go_upto_block 2 with (fail)
            go_cut [11] (fun i wx => ∃ t : Nat, t ≤ L.length ∧ i = .int .i64 t ∧ Hid (∀ j (hj : j < L.length), t ≤ j → befR ⟨rx, rs, ri, ro⟩ L[j] = true) ∧ Hid (∀ j (hj : j < L.length), j + 1 = t → befR ⟨rx, rs, ri, ro⟩ L[j] = false) ∧ Hid (More w5' wx))
            case first =>
              as_aux_lemma =>
                go_wp2_with fail
                go_loopw [11] (fun i wr => ∃ t : Nat, t ≤ L.length ∧ i = .int .i64 t ∧ Hid (∀ j (hj : j < L.length), t ≤ j → befR ⟨rx, rs, ri, ro⟩ L[j] = true) ∧ Hid (More w5' wr)) (fun i _ => (intOf i).toNat)
                case atStart => exact ⟨L.length, Nat.le_refl _, rfl, Lib.hid (fun j hj h => absurd h (by omega)), Lib.hid (World.grownBy.refl _ _)⟩
                case round =>
                  obtain ⟨t, ht, rfl, HHI, HM⟩ := hrel
                  rcases t with _ | m
                  · go_upto_region 13 with (fail)
                    go_quiet (fail)
                    go_wp2_with fail
                    go_meet
                    exact ⟨0, Nat.zero_le _, rfl, HHI, Lib.hid (fun j hj h => absurd h (by omega)), Lib.hid (more_trans HM.out (grownBy_drewN _ _ _))⟩
                  · have hmL : m < L.length := by omega
                    obtain ⟨b3, off3, hga, _, hc⟩ := (Row.of_owns HO5.out).atC rC_len hmL
                    subst hga
                    have e0 := hc 0 (.int .i64 (L[m].x : Nat)) rfl
                    have e1 := hc 1 (.int .i64 L[m].s) rfl
                    have e2 := hc 2 (.int .i64 L[m].i) rfl
                    have e3 := hc 3 (.int .i64 L[m].o) rfl
                    rw [Nat.add_zero] at e0
                    clear hc
                    have HNX := Lib.hid (show befR ⟨rx, rs, ri, ro⟩ L[m] = true → ∀ j (hj : j < L.length), m ≤ j → befR ⟨rx, rs, ri, ro⟩ L[j] = true from fun hz j hj hst => by
                      rcases Nat.lt_or_ge m j with h1 | h1
                      · exact HHI.out j hj h1
                      · obtain rfl : j = m := by omega
                        exact hz)
                    have HNE2 := Lib.hid (show befR ⟨rx, rs, ri, ro⟩ L[m] = false → ∀ j (hj : j < L.length), j + 1 = m + 1 → befR ⟨rx, rs, ri, ro⟩ L[j] = false from fun hz j hj hst => by
                      obtain rfl : j = m := by omega
                      exact hz)
                    have HTA := Lib.hid hmL
                    generalize L[m] = l at *
                    obtain ⟨lx, lS, lI, lO⟩ := l
                    dsimp only at *
                    have HLE := Lib.hid (fun (W : World) => before29_any ⟨rx, rs, ri, ro⟩ ⟨lx, lS, lI, lO⟩ W)
                    dsimp only at HLE
                    obtain ⟨z, HZ⟩ : ∃ z, Hid (befR ⟨rx, rs, ri, ro⟩ ⟨lx, lS, lI, lO⟩ = z) := ⟨_, Lib.hid rfl⟩
                    rw [HZ.out] at HLE
                    have HK := Lib.hid (show ∀ W, More w5' W → (W.cell? ⟨b3, off3 + m * 4, none⟩ = some (.int .i64 (lx : Int)) ∧ W.cell? ⟨b3, off3 + m * 4 + 1, none⟩ = some (.int .i64 lS) ∧ W.cell? ⟨b3, off3 + m * 4 + 2, none⟩ = some (.int .i64 lI) ∧ W.cell? ⟨b3, off3 + m * 4 + 3, none⟩ = some (.int .i64 lO) ∧ W.cell? ⟨XB, 0, none⟩ = some (.int .i64 (rx : Int)) ∧ W.cell? ⟨XB, 1, none⟩ = some (.int .i64 rs) ∧ W.cell? ⟨XB, 2, none⟩ = some (.int .i64 ri) ∧ W.cell? ⟨XB, 3, none⟩ = some (.int .i64 ro)) from fun W h => ⟨h.cell e0, h.cell e1, h.cell e2, h.cell e3, h.cell (cell_of_blk HXB.out rfl), h.cell (cell_of_blk HXB.out rfl), h.cell (cell_of_blk HXB.out rfl), h.cell (cell_of_blk HXB.out rfl)⟩)
                    clear e0 e1 e2 e3
                    have HL := Lib.hid (more_trans HM.out (more_drew wr))
                    have jz1 : (m : Int) < (L.length : Int) := by omega
                    have hwp : IntKind.i64.wrap (m : Int) = (m : Int) := by rw [IntKind.wrap_i64]; omega
                    have z0 : (0 : Int) ≤ (m : Int) + 1 := by omega
                    have hjaz' : (0 : Int) < (m : Int) + 1 := by omega
                    have hm36 : m ≤ 36 := by omega
                    go_upto_region 13 with (fail)
                    go_region_held3 (fun W => W.cell? ⟨b3, off3 + m * 4, none⟩ = some (.int .i64 (lx : Int)) ∧ W.cell? ⟨b3, off3 + m * 4 + 1, none⟩ = some (.int .i64 lS) ∧ W.cell? ⟨b3, off3 + m * 4 + 2, none⟩ = some (.int .i64 lI) ∧ W.cell? ⟨b3, off3 + m * 4 + 3, none⟩ = some (.int .i64 lO) ∧ W.cell? ⟨XB, 0, none⟩ = some (.int .i64 (rx : Int)) ∧ W.cell? ⟨XB, 1, none⟩ = some (.int .i64 rs) ∧ W.cell? ⟨XB, 2, none⟩ = some (.int .i64 ri) ∧ W.cell? ⟨XB, 3, none⟩ = some (.int .i64 ro)) (first | with_reducible exact HK.out _ HL.out) (first | (go_at_call 29; refine (HLE.out _).mono ?_; rintro e w9 ⟨rfl, hm9⟩; have HL := Lib.hid (more_trans HL.out hm9); clear hm9))
                    all_goals
                      have hta9 := HTA.out
                      cases z with
                      | true =>
                        have HN9 := Lib.hid (HNX.out HZ.out)
                        go_wp2_with fail
                        go_roundw
                        case rel => exact ⟨m, by omega, by go_num, HN9, HL⟩
                        case measure => simp [intOf]
                      | false =>
                        have HN9 := Lib.hid (HNE2.out HZ.out)
                        go_wp2_with fail
                        go_meet
                        exact ⟨m + 1, by omega, by first | rfl | (simp; done) | go_num, HHI, HN9, HL⟩
            case rest =>
              obtain ⟨t, ht, rfl, HHI, HLO, HM6⟩ := hcut
              obtain ⟨w7, rfl⟩ : ∃ w7 : World, w7 = wc := ⟨_, rfl⟩
              have HO7 := Lib.hid (owns_keep HO5.out (fun z hz => HM6.out.block (HO5.out.lt z hz).2))
              have HXB7 := Lib.hid ((HM6.out.block (blk_lt HXB.out)).trans HXB.out)
              have HB7 := Lib.hid (HB5.out.trans (HM6.out.below.mono HSZ.out))
              have HSZ7 := Lib.hid (Nat.le_trans HSZ.out HM6.out.size)
              have HA9 := Lib.hid (HIS.out t ht HHI.out HLO.out)
              clear HIS HHI HLO
              obtain ⟨⟨ga2, hs1, hr1, hn1'⟩, hs2, hr2, hn2⟩ := slice46 (c := rC) rC_len ga L.length gcp t ht rfl ((Row.of_owns HO7.out).mono (S' := anyB) (fun _ _ => trivial) (fun _ _ _ _ h => h)) (owns_nil HO7.out)
              have HO1 := Lib.hid (rC_one (L.drop t))
              have HO2 := Lib.hid (rC_one (L.take t))
              have HDL := Lib.hid (show (L.drop t).length = L.length - t by rw [List.length_drop])
              have HTL := Lib.hid (show (L.take t).length = t by rw [List.length_take]; omega)
              have HFX := Lib.hid (show flatC rC (L.take t) ++ ([.int .i64 (rx : Int), .int .i64 rs, .int .i64 ri, .int .i64 ro] ++ flatC rC (L.drop t)) = flatC rC (L.take t ++ ⟨rx, rs, ri, ro⟩ :: L.drop t) by rw [flatC_append]; rfl)
              have HLX := Lib.hid (show (L.take t ++ (⟨rx, rs, ri, ro⟩ : RTd) :: L.drop t).length = t + (1 + (L.length - t)) by rw [List.length_append, List.length_cons, List.length_take, List.length_drop]; omega)
              rw [HDL.out] at hr1
              rw [HTL.out] at hr2
              have HNS9 := Lib.hid (show L.length - t ≤ 100 by omega)
              generalize L.length - t = n1 at *
              generalize gcp - t = c1 at *
              have HR1 := Lib.hid hr1
              have HR2 := Lib.hid hr2
              have HN1 := Lib.hid hn1'
              have HN2 := Lib.hid hn2
              clear hr1 hr2 hn1' hn2
              have x0 : w7.cell? ⟨XB, 0, none⟩ = some (.int .i64 (rx : Int)) := cell_of_blk HXB7.out rfl
              have x1 : w7.cell? ⟨XB, 1, none⟩ = some (.int .i64 rs) := cell_of_blk HXB7.out rfl
              have x2 : w7.cell? ⟨XB, 2, none⟩ = some (.int .i64 ri) := cell_of_blk HXB7.out rfl
              have x3 : w7.cell? ⟨XB, 3, none⟩ = some (.int .i64 ro) := cell_of_blk HXB7.out rfl
              have s0 : w7.drew.cell? ⟨XB, 0, none⟩ = some (.int .i64 (rx : Int)) := x0
              have s1 : w7.drew.cell? ⟨XB, 1, none⟩ = some (.int .i64 rs) := x1
              have s2 : w7.drew.cell? ⟨XB, 2, none⟩ = some (.int .i64 ri) := x2
              have s3 : w7.drew.cell? ⟨XB, 3, none⟩ = some (.int .i64 ro) := x3
              have HML := Lib.hid (show More w7 ((w7.alloc (.cells #[.int .i64 (rx : Int), .int .i64 rs, .int .i64 ri, .int .i64 ro] 77)).drew) from more_trans (more_alloc _ _) (more_drew _))
              have HOL2 := Lib.hid (show ((w7.alloc (.cells #[.int .i64 (rx : Int), .int .i64 rs, .int .i64 ri, .int .i64 ro] 77)).drew).ownsRow N 77 4 (.slice (some ⟨w7.heap.size, 0, none⟩) 1 1) 1 [.int .i64 (rx : Int), .int .i64 rs, .int .i64 ri, .int .i64 ro] from owns_laid w7 #[.int .i64 (rx : Int), .int .i64 rs, .int .i64 ri, .int .i64 ro] 77 N 1 4 HSZ7.out rfl (by unfold maxLen; omega))
              have HR8 := Lib.hid (HR1.out.below HML.out.below)
              have hm1 : 1 + n1 ≤ maxLen := by have := HNS9.out; unfold maxLen; omega
              have hm2 : (1 + n1) * 32 ≤ 140737488355328 := by have := HNS9.out; omega
              have hb7 : N ≤ ((w7.alloc (.cells #[.int .i64 (rx : Int), .int .i64 rs, .int .i64 ri, .int .i64 ro] 77)).drew).heap.size := Nat.le_trans HSZ7.out HML.out.size
              go_upto_region 15 with (fail)
              go_region_held3 (fun W => W.cell? ⟨XB, 0, none⟩ = some (.int .i64 (rx : Int)) ∧ W.cell? ⟨XB, 1, none⟩ = some (.int .i64 rs) ∧ W.cell? ⟨XB, 2, none⟩ = some (.int .i64 ri) ∧ W.cell? ⟨XB, 3, none⟩ = some (.int .i64 ro)) (first | with_reducible exact ⟨s0, s1, s2, s3⟩ | with_reducible exact ⟨allocd_cell (a := ⟨XB, 0, none⟩) _ x0, allocd_cell (a := ⟨XB, 1, none⟩) _ x1, allocd_cell (a := ⟨XB, 2, none⟩) _ x2, allocd_cell (a := ⟨XB, 3, none⟩) _ x3⟩ | with_reducible exact ⟨y0, y1, y2, y3⟩)
                (first | (refine step_append_rowC (by rfl) _ _ _ (by rfl) N 77 i0 _ 4 32 Tryz.underlying46 hi0 hz0 hz1 hz2 (by rfl) (by omega) (.slice (some ⟨w7.heap.size, 0, none⟩) 1 1) 1 [.int .i64 (rx : Int), .int .i64 rs, .int .i64 ri, .int .i64 ro] (by rfl) HOL2.out (.slice ga2 n1 c1) n1 (flatC rC (L.drop t)) (by rfl) HR8.out HN1.out HO1.out hm1 hm2 hb7 ?_; intro v8 w8 hown8 hgrow8; obtain ⟨g8, cp8, rfl, _, _⟩ := hown8.form (by omega); have y0 := World.grownBy.cell hgrow8 (allocd_cell (a := ⟨XB, 0, none⟩) _ x0) (fun e => (by have h9 := blk_lt HXB7.out; have e9 : XB = w7.heap.size := Option.some.inj e; omega)); have y1 := World.grownBy.cell hgrow8 (allocd_cell (a := ⟨XB, 1, none⟩) _ x1) (fun e => (by have h9 := blk_lt HXB7.out; have e9 : XB = w7.heap.size := Option.some.inj e; omega)); have y2 := World.grownBy.cell hgrow8 (allocd_cell (a := ⟨XB, 2, none⟩) _ x2) (fun e => (by have h9 := blk_lt HXB7.out; have e9 : XB = w7.heap.size := Option.some.inj e; omega)); have y3 := World.grownBy.cell hgrow8 (allocd_cell (a := ⟨XB, 3, none⟩) _ x3) (fun e => (by have h9 := blk_lt HXB7.out; have e9 : XB = w7.heap.size := Option.some.inj e; omega)); have HO8 := Lib.hid hown8; have HG8 := Lib.hid hgrow8; clear hown8 hgrow8))
              all_goals
                clear s0 s1 s2 s3 x0 x1 x2 x3 y0 y1 y2 y3 hm1 hm2 hb7 hs1
                have HB8 := Lib.hid (show Below N w w8 from (HB7.out.trans (HML.out.below.mono HSZ7.out)).grown HG8.out (Nat.le_trans HSZ7.out HML.out.size) (fun z hz => by have e9 : w7.heap.size = z := Option.some.inj hz; have := HSZ7.out; omega))
                have HSZ8 := Lib.hid (show N ≤ w8.heap.size from Nat.le_trans HSZ7.out (Nat.le_trans HML.out.size HG8.out.size))
                have HR28 := Lib.hid (show Row anyB w8 4 t (.slice ga t gcp) (flatC rC (L.take t)) from ((HR2.out.lt (by omega)).mono (S' := anyB) (fun _ _ => trivial) (fun b off x hb hc => by
                  rw [← hc]
                  have h1 : b < w7.heap.size := hb.2
                  exact World.cell?_of_block (w := w7) (a := ⟨b, off, none⟩) ((HG8.out.block b (Nat.lt_of_lt_of_le h1 HML.out.size) (fun e => by have e9 : b = w7.heap.size := Option.some.inj e; omega)).trans (HML.out.block h1)))))
                obtain ⟨N3, HN3⟩ : ∃ N3, Hid (N3 = w8.heap.size) := ⟨_, Lib.hid rfl⟩
                have HOE := Lib.hid (show (w8.alloc (.cells #[] 77)).ownsRow N3 77 4 (.slice (some ⟨w8.heap.size, 0, none⟩) 0 0) 0 [] by rw [HN3.out]; exact ownsRow_empty w8 77 4)
                have HME := Lib.hid (more_alloc w8 (.cells #[] 77))
                have HR29 := Lib.hid (HR28.out.below HME.out.below)
                have HRST := Lib.hid (fun (W : World) (hW : ∀ b, b < N3 → W.heap[b]? = w8.heap[b]?) => (show Row anyB W 4 (1 + n1) (.slice (some ⟨g8, 0, none⟩) (1 + n1) cp8) ([.int .i64 (rx : Int), .int .i64 rs, .int .i64 ri, .int .i64 ro] ++ flatC rC (L.drop t)) from ((Row.of_owns HO8.out).mono (S' := anyB) (fun _ _ => trivial) (fun _ _ _ _ h => h) |> fun r => ((r.lt (by omega)).mono (S' := anyB) (fun _ _ => trivial) (fun b off x hb hc => by
                  rw [← hc]
                  exact World.cell?_of_block (w := w8) (a := ⟨b, off, none⟩) (hW b (by rw [HN3.out]; exact hb.2)))))))
                have HNR := Lib.hid (owns_nil HO8.out)
                have hm3 : 0 + t ≤ maxLen := by unfold maxLen; omega
                have hm4 : (0 + t) * 32 ≤ 140737488355328 := by omega
                have hb3 : N3 ≤ (w8.alloc (.cells #[] 77)).heap.size := by rw [HN3.out, World.size_alloc]; omega
                have HON2 := Lib.hid (show ∀ u ∈ [Value.int .i64 (rx : Int), .int .i64 rs, .int .i64 ri, .int .i64 ro] ++ flatC rC (L.drop t), u.oneCell' = true from fun u hu => by
                  rcases List.mem_append.1 hu with h1 | h1
                  · simp only [List.mem_cons, List.not_mem_nil, or_false] at h1; rcases h1 with rfl | rfl | rfl | rfl <;> rfl
                  · exact HO1.out u h1)
                have hnb := HNS9.out
                go_wp2_with (at_builtin; first
                  | (refine wpList_append_rowC rfl _ _ 46 rfl N3 77 i0 _ 4 32 Tryz.underlying46 hi0 hz0 hz1 hz2 rfl (by omega) (.slice (some ⟨w8.heap.size, 0, none⟩) 0 0) 0 [] rfl HOE.out (.slice ga t gcp) t (flatC rC (L.take t)) rfl HR29.out HN2.out HO2.out hm3 hm4 hb3 ?_; intro v10 w10 hown10 hgrow10; have HK10 := Lib.hid (show ∀ b, b < N3 → w10.heap[b]? = w8.heap[b]? from fun b hb => (hgrow10.block b (by have := HME.out.size; have := HN3.out; omega) (fun e => (by have e9 : b = w8.heap.size := Option.some.inj e; have := HN3.out; omega))).trans (HME.out.block (by rw [← HN3.out]; exact hb))); have HR10 := Lib.hid (HRST.out w10 HK10.out); have hb10 : N3 ≤ w10.heap.size := Nat.le_trans hb3 hgrow10.size; have hm5 : 0 + t + (1 + n1) ≤ maxLen := (by unfold maxLen; omega); have hm6 : (0 + t + (1 + n1)) * 32 ≤ 140737488355328 := (by omega))
                  | (refine wpList_append_rowC rfl _ _ 46 rfl N3 77 i0 _ 4 32 Tryz.underlying46 hi0 hz0 hz1 hz2 rfl (by omega) v10 (0 + t) ([] ++ flatC rC (L.take t)) rfl hown10 (.slice (some ⟨g8, 0, none⟩) (1 + n1) cp8) (1 + n1) ([.int .i64 (rx : Int), .int .i64 rs, .int .i64 ri, .int .i64 ro] ++ flatC rC (L.drop t)) rfl HR10.out HNR.out HON2.out hm5 hm6 hb10 ?_; intro v11 w11 hown11 hgrow11))
                have HZ10 := Lib.hid (fun z hz => (hown10.lt z hz).1)
                rw [Nat.zero_add, List.nil_append] at hown11
                have HO11 := Lib.hid (show w11.ownsRow N 77 4 v11 (L.take t ++ (⟨rx, rs, ri, ro⟩ : RTd) :: L.drop t).length (flatC rC (L.take t ++ ⟨rx, rs, ri, ro⟩ :: L.drop t)) by
                  rw [HLX.out, ← HFX.out]
                  exact owns_base hown11 (by rw [HN3.out]; exact HSZ8.out))
                have HB11 := Lib.hid (show Below N w w11 from (((HB8.out.alloc HSZ8.out (.cells #[] 77)).grown hgrow10 (Nat.le_trans HSZ8.out HME.out.size) (fun z hz => by have e9 : w8.heap.size = z := Option.some.inj hz; have := HSZ8.out; omega)).grown hgrow11 (by have := HSZ8.out; have := HN3.out; omega) (fun z hz => by have := HZ10.out z hz; have := HSZ8.out; have := HN3.out; omega)))
                clear hown10 hown11 hgrow10 hgrow11 hm3 hm4 hm5 hm6 hb3 hb10
                go_wp2_with fail
                go_roundw
                case rel => exact ⟨x + 1, _, by omega, by go_num, HA9, HO11, HB11⟩
                case measure => simp [intOf]; omega
          | false =>
            obtain ⟨r, HRE⟩ : ∃ r, Hid (mkR ns false x = r ∧ r = ⟨x, 3, n, o⟩) := ⟨_, Lib.hid ⟨rfl, by unfold mkR; rw [HNE.out, HNL.out, if_pos hno]; rfl⟩⟩
            clear hno
            have HIS := Lib.hid (show ∀ t, t ≤ L.length → (∀ j (hj : j < L.length), t ≤ j → befR r L[j] = true) → (∀ j (hj : j < L.length), j + 1 = t → befR r L[j] = false) → RfL ns false (x + 1) (L.take t ++ r :: L.drop t) from fun t ht hr hl => by
              have h := HA.out.ins HPOS.out ht (by rw [HRE.out.1]; exact hr) (by rw [HRE.out.1]; exact hl)
              rw [HRE.out.1] at h
              exact h)
            have HXB := Lib.hid (alloc_last wr (.cells #[.int .i64 x, .int .i64 3, .int .i64 n, .int .i64 o] 77))
            have HM5 := Lib.hid (more_alloc wr (.cells #[.int .i64 x, .int .i64 3, .int .i64 n, .int .i64 o] 77))
            have hbx : wr.heap.size < (wr.alloc (.cells #[.int .i64 x, .int .i64 2, .int .i64 n, .int .i64 o] 77)).heap.size := blk_lt (alloc_last wr _)
            obtain ⟨wo, HWO⟩ : ∃ wo, Hid (wo = wr) := ⟨_, Lib.hid rfl⟩
            go_upto_region 12 with (go_at_call 28; refine HCA.out.mono ?_; rintro e w9 ⟨rfl, he9⟩; rw [he9]; clear he9)
            clear hbx HWO
            obtain ⟨XB, HXE⟩ : ∃ XB, Hid (XB = wr.heap.size) := ⟨_, Lib.hid rfl⟩
            rw [← HXE.out] at HXB ⊢
            generalize wr.alloc (.cells #[.int .i64 x, .int .i64 3, .int .i64 n, .int .i64 o] 77) = w5 at *
            have HXR := Lib.hid (show w5.heap[XB]? = some (.cells (rC r).toArray 77) from by rw [HRE.out.2]; exact HXB.out)
            clear HXB HRE
            have HB5 := Lib.hid (show Below N w w5 from HB.out.trans (HM5.out.below.mono (by have := HB.out.size; rw [HN.out]; exact this)))
            have HO5 := Lib.hid (owns_keep HO.out (fun z hz => HM5.out.block (HO.out.lt z hz).2))
            have HSZ := Lib.hid (show N ≤ w5.heap.size by have := HB5.out.size; rw [HN.out]; exact this)
            clear HB HO HM5 HMW HCA HC28
            obtain ⟨rx, rs, ri, ro⟩ := r
            have HXB := Lib.hid (show w5.heap[XB]? = some (.cells #[.int .i64 (rx : Int), .int .i64 rs, .int .i64 ri, .int .i64 ro] 77) from HXR.out)
            clear HXR
            obtain ⟨w5', rfl⟩ : ∃ w5' : World, w5' = w5 := ⟨_, rfl⟩
            have hal9 : L.length ≤ 36 := by have := HAL.out; omega
            go_upto_block 2 with (fail)
            go_cut [11] (fun i wx => ∃ t : Nat, t ≤ L.length ∧ i = .int .i64 t ∧ Hid (∀ j (hj : j < L.length), t ≤ j → befR ⟨rx, rs, ri, ro⟩ L[j] = true) ∧ Hid (∀ j (hj : j < L.length), j + 1 = t → befR ⟨rx, rs, ri, ro⟩ L[j] = false) ∧ Hid (More w5' wx))
            case first =>
              as_aux_lemma =>
                go_wp2_with fail
                go_loopw [11] (fun i wr => ∃ t : Nat, t ≤ L.length ∧ i = .int .i64 t ∧ Hid (∀ j (hj : j < L.length), t ≤ j → befR ⟨rx, rs, ri, ro⟩ L[j] = true) ∧ Hid (More w5' wr)) (fun i _ => (intOf i).toNat)
                case atStart => exact ⟨L.length, Nat.le_refl _, rfl, Lib.hid (fun j hj h => absurd h (by omega)), Lib.hid (World.grownBy.refl _ _)⟩
                case round =>
                  obtain ⟨t, ht, rfl, HHI, HM⟩ := hrel
                  rcases t with _ | m
                  · go_upto_region 13 with (fail)
                    go_quiet (fail)
                    go_wp2_with fail
                    go_meet
                    exact ⟨0, Nat.zero_le _, rfl, HHI, Lib.hid (fun j hj h => absurd h (by omega)), Lib.hid (more_trans HM.out (grownBy_drewN _ _ _))⟩
                  · have hmL : m < L.length := by omega
                    obtain ⟨b3, off3, hga, _, hc⟩ := (Row.of_owns HO5.out).atC rC_len hmL
                    subst hga
                    have e0 := hc 0 (.int .i64 (L[m].x : Nat)) rfl
                    have e1 := hc 1 (.int .i64 L[m].s) rfl
                    have e2 := hc 2 (.int .i64 L[m].i) rfl
                    have e3 := hc 3 (.int .i64 L[m].o) rfl
                    rw [Nat.add_zero] at e0
                    clear hc
                    have HNX := Lib.hid (show befR ⟨rx, rs, ri, ro⟩ L[m] = true → ∀ j (hj : j < L.length), m ≤ j → befR ⟨rx, rs, ri, ro⟩ L[j] = true from fun hz j hj hst => by
                      rcases Nat.lt_or_ge m j with h1 | h1
                      · exact HHI.out j hj h1
                      · obtain rfl : j = m := by omega
                        exact hz)
                    have HNE2 := Lib.hid (show befR ⟨rx, rs, ri, ro⟩ L[m] = false → ∀ j (hj : j < L.length), j + 1 = m + 1 → befR ⟨rx, rs, ri, ro⟩ L[j] = false from fun hz j hj hst => by
                      obtain rfl : j = m := by omega
                      exact hz)
                    have HTA := Lib.hid hmL
                    generalize L[m] = l at *
                    obtain ⟨lx, lS, lI, lO⟩ := l
                    dsimp only at *
                    have HLE := Lib.hid (fun (W : World) => before29_any ⟨rx, rs, ri, ro⟩ ⟨lx, lS, lI, lO⟩ W)
                    dsimp only at HLE
                    obtain ⟨z, HZ⟩ : ∃ z, Hid (befR ⟨rx, rs, ri, ro⟩ ⟨lx, lS, lI, lO⟩ = z) := ⟨_, Lib.hid rfl⟩
                    rw [HZ.out] at HLE
                    have HK := Lib.hid (show ∀ W, More w5' W → (W.cell? ⟨b3, off3 + m * 4, none⟩ = some (.int .i64 (lx : Int)) ∧ W.cell? ⟨b3, off3 + m * 4 + 1, none⟩ = some (.int .i64 lS) ∧ W.cell? ⟨b3, off3 + m * 4 + 2, none⟩ = some (.int .i64 lI) ∧ W.cell? ⟨b3, off3 + m * 4 + 3, none⟩ = some (.int .i64 lO) ∧ W.cell? ⟨XB, 0, none⟩ = some (.int .i64 (rx : Int)) ∧ W.cell? ⟨XB, 1, none⟩ = some (.int .i64 rs) ∧ W.cell? ⟨XB, 2, none⟩ = some (.int .i64 ri) ∧ W.cell? ⟨XB, 3, none⟩ = some (.int .i64 ro)) from fun W h => ⟨h.cell e0, h.cell e1, h.cell e2, h.cell e3, h.cell (cell_of_blk HXB.out rfl), h.cell (cell_of_blk HXB.out rfl), h.cell (cell_of_blk HXB.out rfl), h.cell (cell_of_blk HXB.out rfl)⟩)
                    clear e0 e1 e2 e3
                    have HL := Lib.hid (more_trans HM.out (more_drew wr))
                    have jz1 : (m : Int) < (L.length : Int) := by omega
                    have hwp : IntKind.i64.wrap (m : Int) = (m : Int) := by rw [IntKind.wrap_i64]; omega
                    have z0 : (0 : Int) ≤ (m : Int) + 1 := by omega
                    have hjaz' : (0 : Int) < (m : Int) + 1 := by omega
                    have hm36 : m ≤ 36 := by omega
                    go_upto_region 13 with (fail)
                    go_region_held3 (fun W => W.cell? ⟨b3, off3 + m * 4, none⟩ = some (.int .i64 (lx : Int)) ∧ W.cell? ⟨b3, off3 + m * 4 + 1, none⟩ = some (.int .i64 lS) ∧ W.cell? ⟨b3, off3 + m * 4 + 2, none⟩ = some (.int .i64 lI) ∧ W.cell? ⟨b3, off3 + m * 4 + 3, none⟩ = some (.int .i64 lO) ∧ W.cell? ⟨XB, 0, none⟩ = some (.int .i64 (rx : Int)) ∧ W.cell? ⟨XB, 1, none⟩ = some (.int .i64 rs) ∧ W.cell? ⟨XB, 2, none⟩ = some (.int .i64 ri) ∧ W.cell? ⟨XB, 3, none⟩ = some (.int .i64 ro)) (first | with_reducible exact HK.out _ HL.out) (first | (go_at_call 29; refine (HLE.out _).mono ?_; rintro e w9 ⟨rfl, hm9⟩; have HL := Lib.hid (more_trans HL.out hm9); clear hm9))
                    all_goals
                      have hta9 := HTA.out
                      cases z with
                      | true =>
                        have HN9 := Lib.hid (HNX.out HZ.out)
                        go_wp2_with fail
                        go_roundw
                        case rel => exact ⟨m, by omega, by go_num, HN9, HL⟩
                        case measure => simp [intOf]
                      | false =>
                        have HN9 := Lib.hid (HNE2.out HZ.out)
                        go_wp2_with fail
                        go_meet
                        exact ⟨m + 1, by omega, by first | rfl | (simp; done) | go_num, HHI, HN9, HL⟩
            case rest =>
              obtain ⟨t, ht, rfl, HHI, HLO, HM6⟩ := hcut
              obtain ⟨w7, rfl⟩ : ∃ w7 : World, w7 = wc := ⟨_, rfl⟩
              have HO7 := Lib.hid (owns_keep HO5.out (fun z hz => HM6.out.block (HO5.out.lt z hz).2))
              have HXB7 := Lib.hid ((HM6.out.block (blk_lt HXB.out)).trans HXB.out)
              have HB7 := Lib.hid (HB5.out.trans (HM6.out.below.mono HSZ.out))
              have HSZ7 := Lib.hid (Nat.le_trans HSZ.out HM6.out.size)
              have HA9 := Lib.hid (HIS.out t ht HHI.out HLO.out)
              clear HIS HHI HLO
              obtain ⟨⟨ga2, hs1, hr1, hn1'⟩, hs2, hr2, hn2⟩ := slice46 (c := rC) rC_len ga L.length gcp t ht rfl ((Row.of_owns HO7.out).mono (S' := anyB) (fun _ _ => trivial) (fun _ _ _ _ h => h)) (owns_nil HO7.out)
              have HO1 := Lib.hid (rC_one (L.drop t))
              have HO2 := Lib.hid (rC_one (L.take t))
              have HDL := Lib.hid (show (L.drop t).length = L.length - t by rw [List.length_drop])
              have HTL := Lib.hid (show (L.take t).length = t by rw [List.length_take]; omega)
              have HFX := Lib.hid (show flatC rC (L.take t) ++ ([.int .i64 (rx : Int), .int .i64 rs, .int .i64 ri, .int .i64 ro] ++ flatC rC (L.drop t)) = flatC rC (L.take t ++ ⟨rx, rs, ri, ro⟩ :: L.drop t) by rw [flatC_append]; rfl)
              have HLX := Lib.hid (show (L.take t ++ (⟨rx, rs, ri, ro⟩ : RTd) :: L.drop t).length = t + (1 + (L.length - t)) by rw [List.length_append, List.length_cons, List.length_take, List.length_drop]; omega)
              rw [HDL.out] at hr1
              rw [HTL.out] at hr2
              have HNS9 := Lib.hid (show L.length - t ≤ 100 by omega)
              generalize L.length - t = n1 at *
              generalize gcp - t = c1 at *
              have HR1 := Lib.hid hr1
              have HR2 := Lib.hid hr2
              have HN1 := Lib.hid hn1'
              have HN2 := Lib.hid hn2
              clear hr1 hr2 hn1' hn2
              have x0 : w7.cell? ⟨XB, 0, none⟩ = some (.int .i64 (rx : Int)) := cell_of_blk HXB7.out rfl
              have x1 : w7.cell? ⟨XB, 1, none⟩ = some (.int .i64 rs) := cell_of_blk HXB7.out rfl
              have x2 : w7.cell? ⟨XB, 2, none⟩ = some (.int .i64 ri) := cell_of_blk HXB7.out rfl
              have x3 : w7.cell? ⟨XB, 3, none⟩ = some (.int .i64 ro) := cell_of_blk HXB7.out rfl
              have s0 : w7.drew.cell? ⟨XB, 0, none⟩ = some (.int .i64 (rx : Int)) := x0
              have s1 : w7.drew.cell? ⟨XB, 1, none⟩ = some (.int .i64 rs) := x1
              have s2 : w7.drew.cell? ⟨XB, 2, none⟩ = some (.int .i64 ri) := x2
              have s3 : w7.drew.cell? ⟨XB, 3, none⟩ = some (.int .i64 ro) := x3
              have HML := Lib.hid (show More w7 ((w7.alloc (.cells #[.int .i64 (rx : Int), .int .i64 rs, .int .i64 ri, .int .i64 ro] 77)).drew) from more_trans (more_alloc _ _) (more_drew _))
              have HOL2 := Lib.hid (show ((w7.alloc (.cells #[.int .i64 (rx : Int), .int .i64 rs, .int .i64 ri, .int .i64 ro] 77)).drew).ownsRow N 77 4 (.slice (some ⟨w7.heap.size, 0, none⟩) 1 1) 1 [.int .i64 (rx : Int), .int .i64 rs, .int .i64 ri, .int .i64 ro] from owns_laid w7 #[.int .i64 (rx : Int), .int .i64 rs, .int .i64 ri, .int .i64 ro] 77 N 1 4 HSZ7.out rfl (by unfold maxLen; omega))
              have HR8 := Lib.hid (HR1.out.below HML.out.below)
              have hm1 : 1 + n1 ≤ maxLen := by have := HNS9.out; unfold maxLen; omega
              have hm2 : (1 + n1) * 32 ≤ 140737488355328 := by have := HNS9.out; omega
              have hb7 : N ≤ ((w7.alloc (.cells #[.int .i64 (rx : Int), .int .i64 rs, .int .i64 ri, .int .i64 ro] 77)).drew).heap.size := Nat.le_trans HSZ7.out HML.out.size
              go_upto_region 15 with (fail)
              go_region_held3 (fun W => W.cell? ⟨XB, 0, none⟩ = some (.int .i64 (rx : Int)) ∧ W.cell? ⟨XB, 1, none⟩ = some (.int .i64 rs) ∧ W.cell? ⟨XB, 2, none⟩ = some (.int .i64 ri) ∧ W.cell? ⟨XB, 3, none⟩ = some (.int .i64 ro)) (first | with_reducible exact ⟨s0, s1, s2, s3⟩ | with_reducible exact ⟨allocd_cell (a := ⟨XB, 0, none⟩) _ x0, allocd_cell (a := ⟨XB, 1, none⟩) _ x1, allocd_cell (a := ⟨XB, 2, none⟩) _ x2, allocd_cell (a := ⟨XB, 3, none⟩) _ x3⟩ | with_reducible exact ⟨y0, y1, y2, y3⟩)
                (first | (refine step_append_rowC (by rfl) _ _ _ (by rfl) N 77 i0 _ 4 32 Tryz.underlying46 hi0 hz0 hz1 hz2 (by rfl) (by omega) (.slice (some ⟨w7.heap.size, 0, none⟩) 1 1) 1 [.int .i64 (rx : Int), .int .i64 rs, .int .i64 ri, .int .i64 ro] (by rfl) HOL2.out (.slice ga2 n1 c1) n1 (flatC rC (L.drop t)) (by rfl) HR8.out HN1.out HO1.out hm1 hm2 hb7 ?_; intro v8 w8 hown8 hgrow8; obtain ⟨g8, cp8, rfl, _, _⟩ := hown8.form (by omega); have y0 := World.grownBy.cell hgrow8 (allocd_cell (a := ⟨XB, 0, none⟩) _ x0) (fun e => (by have h9 := blk_lt HXB7.out; have e9 : XB = w7.heap.size := Option.some.inj e; omega)); have y1 := World.grownBy.cell hgrow8 (allocd_cell (a := ⟨XB, 1, none⟩) _ x1) (fun e => (by have h9 := blk_lt HXB7.out; have e9 : XB = w7.heap.size := Option.some.inj e; omega)); have y2 := World.grownBy.cell hgrow8 (allocd_cell (a := ⟨XB, 2, none⟩) _ x2) (fun e => (by have h9 := blk_lt HXB7.out; have e9 : XB = w7.heap.size := Option.some.inj e; omega)); have y3 := World.grownBy.cell hgrow8 (allocd_cell (a := ⟨XB, 3, none⟩) _ x3) (fun e => (by have h9 := blk_lt HXB7.out; have e9 : XB = w7.heap.size := Option.some.inj e; omega)); have HO8 := Lib.hid hown8; have HG8 := Lib.hid hgrow8; clear hown8 hgrow8))
              all_goals
                clear s0 s1 s2 s3 x0 x1 x2 x3 y0 y1 y2 y3 hm1 hm2 hb7 hs1
                have HB8 := Lib.hid (show Below N w w8 from (HB7.out.trans (HML.out.below.mono HSZ7.out)).grown HG8.out (Nat.le_trans HSZ7.out HML.out.size) (fun z hz => by have e9 : w7.heap.size = z := Option.some.inj hz; have := HSZ7.out; omega))
                have HSZ8 := Lib.hid (show N ≤ w8.heap.size from Nat.le_trans HSZ7.out (Nat.le_trans HML.out.size HG8.out.size))
                have HR28 := Lib.hid (show Row anyB w8 4 t (.slice ga t gcp) (flatC rC (L.take t)) from ((HR2.out.lt (by omega)).mono (S' := anyB) (fun _ _ => trivial) (fun b off x hb hc => by
                  rw [← hc]
                  have h1 : b < w7.heap.size := hb.2
                  exact World.cell?_of_block (w := w7) (a := ⟨b, off, none⟩) ((HG8.out.block b (Nat.lt_of_lt_of_le h1 HML.out.size) (fun e => by have e9 : b = w7.heap.size := Option.some.inj e; omega)).trans (HML.out.block h1)))))
                obtain ⟨N3, HN3⟩ : ∃ N3, Hid (N3 = w8.heap.size) := ⟨_, Lib.hid rfl⟩
                have HOE := Lib.hid (show (w8.alloc (.cells #[] 77)).ownsRow N3 77 4 (.slice (some ⟨w8.heap.size, 0, none⟩) 0 0) 0 [] by rw [HN3.out]; exact ownsRow_empty w8 77 4)
                have HME := Lib.hid (more_alloc w8 (.cells #[] 77))
                have HR29 := Lib.hid (HR28.out.below HME.out.below)
                have HRST := Lib.hid (fun (W : World) (hW : ∀ b, b < N3 → W.heap[b]? = w8.heap[b]?) => (show Row anyB W 4 (1 + n1) (.slice (some ⟨g8, 0, none⟩) (1 + n1) cp8) ([.int .i64 (rx : Int), .int .i64 rs, .int .i64 ri, .int .i64 ro] ++ flatC rC (L.drop t)) from ((Row.of_owns HO8.out).mono (S' := anyB) (fun _ _ => trivial) (fun _ _ _ _ h => h) |> fun r => ((r.lt (by omega)).mono (S' := anyB) (fun _ _ => trivial) (fun b off x hb hc => by
                  rw [← hc]
                  exact World.cell?_of_block (w := w8) (a := ⟨b, off, none⟩) (hW b (by rw [HN3.out]; exact hb.2)))))))
                have HNR := Lib.hid (owns_nil HO8.out)
                have hm3 : 0 + t ≤ maxLen := by unfold maxLen; omega
                have hm4 : (0 + t) * 32 ≤ 140737488355328 := by omega
                have hb3 : N3 ≤ (w8.alloc (.cells #[] 77)).heap.size := by rw [HN3.out, World.size_alloc]; omega
                have HON2 := Lib.hid (show ∀ u ∈ [Value.int .i64 (rx : Int), .int .i64 rs, .int .i64 ri, .int .i64 ro] ++ flatC rC (L.drop t), u.oneCell' = true from fun u hu => by
                  rcases List.mem_append.1 hu with h1 | h1
                  · simp only [List.mem_cons, List.not_mem_nil, or_false] at h1; rcases h1 with rfl | rfl | rfl | rfl <;> rfl
                  · exact HO1.out u h1)
                have hnb := HNS9.out
                go_wp2_with (at_builtin; first
                  | (refine wpList_append_rowC rfl _ _ 46 rfl N3 77 i0 _ 4 32 Tryz.underlying46 hi0 hz0 hz1 hz2 rfl (by omega) (.slice (some ⟨w8.heap.size, 0, none⟩) 0 0) 0 [] rfl HOE.out (.slice ga t gcp) t (flatC rC (L.take t)) rfl HR29.out HN2.out HO2.out hm3 hm4 hb3 ?_; intro v10 w10 hown10 hgrow10; have HK10 := Lib.hid (show ∀ b, b < N3 → w10.heap[b]? = w8.heap[b]? from fun b hb => (hgrow10.block b (by have := HME.out.size; have := HN3.out; omega) (fun e => (by have e9 : b = w8.heap.size := Option.some.inj e; have := HN3.out; omega))).trans (HME.out.block (by rw [← HN3.out]; exact hb))); have HR10 := Lib.hid (HRST.out w10 HK10.out); have hb10 : N3 ≤ w10.heap.size := Nat.le_trans hb3 hgrow10.size; have hm5 : 0 + t + (1 + n1) ≤ maxLen := (by unfold maxLen; omega); have hm6 : (0 + t + (1 + n1)) * 32 ≤ 140737488355328 := (by omega))
                  | (refine wpList_append_rowC rfl _ _ 46 rfl N3 77 i0 _ 4 32 Tryz.underlying46 hi0 hz0 hz1 hz2 rfl (by omega) v10 (0 + t) ([] ++ flatC rC (L.take t)) rfl hown10 (.slice (some ⟨g8, 0, none⟩) (1 + n1) cp8) (1 + n1) ([.int .i64 (rx : Int), .int .i64 rs, .int .i64 ri, .int .i64 ro] ++ flatC rC (L.drop t)) rfl HR10.out HNR.out HON2.out hm5 hm6 hb10 ?_; intro v11 w11 hown11 hgrow11))
                have HZ10 := Lib.hid (fun z hz => (hown10.lt z hz).1)
                rw [Nat.zero_add, List.nil_append] at hown11
                have HO11 := Lib.hid (show w11.ownsRow N 77 4 v11 (L.take t ++ (⟨rx, rs, ri, ro⟩ : RTd) :: L.drop t).length (flatC rC (L.take t ++ ⟨rx, rs, ri, ro⟩ :: L.drop t)) by
                  rw [HLX.out, ← HFX.out]
                  exact owns_base hown11 (by rw [HN3.out]; exact HSZ8.out))
                have HB11 := Lib.hid (show Below N w w11 from (((HB8.out.alloc HSZ8.out (.cells #[] 77)).grown hgrow10 (Nat.le_trans HSZ8.out HME.out.size) (fun z hz => by have e9 : w8.heap.size = z := Option.some.inj hz; have := HSZ8.out; omega)).grown hgrow11 (by have := HSZ8.out; have := HN3.out; omega) (fun z hz => by have := HZ10.out z hz; have := HSZ8.out; have := HN3.out; omega)))
                clear hown10 hown11 hgrow10 hgrow11 hm3 hm4 hm5 hm6 hb3 hb10
                go_wp2_with fail
                go_roundw
                case rel => exact ⟨x + 1, _, by omega, by go_num, HA9, HO11, HB11⟩
                case measure => simp [intOf]; omega
        · have hq : ((n : Int) == (o : Int)) = false := beq_eq_false_iff_ne.2 (by omega)
          obtain ⟨r, HRE⟩ : ∃ r, Hid (mkR ns cb x = r ∧ r = ⟨x, 2, n, o⟩) := ⟨_, Lib.hid ⟨rfl, by unfold mkR; rw [HNE.out, HNL.out, if_neg hno]⟩⟩
          clear hno
          have HIS := Lib.hid (show ∀ t, t ≤ L.length → (∀ j (hj : j < L.length), t ≤ j → befR r L[j] = true) → (∀ j (hj : j < L.length), j + 1 = t → befR r L[j] = false) → RfL ns cb (x + 1) (L.take t ++ r :: L.drop t) from fun t ht hr hl => by
            have h := HA.out.ins HPOS.out ht (by rw [HRE.out.1]; exact hr) (by rw [HRE.out.1]; exact hl)
            rw [HRE.out.1] at h
            exact h)
          have HXB := Lib.hid (alloc_last wr (.cells #[.int .i64 x, .int .i64 2, .int .i64 n, .int .i64 o] 77))
          have HM5 := Lib.hid (more_alloc wr (.cells #[.int .i64 x, .int .i64 2, .int .i64 n, .int .i64 o] 77))
          have hbx : wr.heap.size < (wr.alloc (.cells #[.int .i64 x, .int .i64 2, .int .i64 n, .int .i64 o] 77)).heap.size := blk_lt (alloc_last wr _)
          obtain ⟨wo, HWO⟩ : ∃ wo, Hid (wo = wr) := ⟨_, Lib.hid rfl⟩
          go_upto_region 12 with (go_at_call 28; refine HCA.out.mono ?_; rintro e w9 ⟨rfl, he9⟩; rw [he9]; clear he9)
          clear hbx HWO
          obtain ⟨XB, HXE⟩ : ∃ XB, Hid (XB = wr.heap.size) := ⟨_, Lib.hid rfl⟩
          rw [← HXE.out] at HXB ⊢
          generalize wr.alloc (.cells #[.int .i64 x, .int .i64 2, .int .i64 n, .int .i64 o] 77) = w5 at *
          have HXR := Lib.hid (show w5.heap[XB]? = some (.cells (rC r).toArray 77) from by rw [HRE.out.2]; exact HXB.out)
          clear HXB HRE
          have HB5 := Lib.hid (show Below N w w5 from HB.out.trans (HM5.out.below.mono (by have := HB.out.size; rw [HN.out]; exact this)))
          have HO5 := Lib.hid (owns_keep HO.out (fun z hz => HM5.out.block (HO.out.lt z hz).2))
          have HSZ := Lib.hid (show N ≤ w5.heap.size by have := HB5.out.size; rw [HN.out]; exact this)
          clear HB HO HM5 HMW HCA HC28
          obtain ⟨rx, rs, ri, ro⟩ := r
          have HXB := Lib.hid (show w5.heap[XB]? = some (.cells #[.int .i64 (rx : Int), .int .i64 rs, .int .i64 ri, .int .i64 ro] 77) from HXR.out)
          clear HXR
          obtain ⟨w5', rfl⟩ : ∃ w5' : World, w5' = w5 := ⟨_, rfl⟩
          have hal9 : L.length ≤ 36 := by have := HAL.out; omega
          go_upto_block 2 with (fail)
          go_cut [11] (fun i wx => ∃ t : Nat, t ≤ L.length ∧ i = .int .i64 t ∧ Hid (∀ j (hj : j < L.length), t ≤ j → befR ⟨rx, rs, ri, ro⟩ L[j] = true) ∧ Hid (∀ j (hj : j < L.length), j + 1 = t → befR ⟨rx, rs, ri, ro⟩ L[j] = false) ∧ Hid (More w5' wx))
          case first =>
            as_aux_lemma =>
              go_wp2_with fail
              go_loopw [11] (fun i wr => ∃ t : Nat, t ≤ L.length ∧ i = .int .i64 t ∧ Hid (∀ j (hj : j < L.length), t ≤ j → befR ⟨rx, rs, ri, ro⟩ L[j] = true) ∧ Hid (More w5' wr)) (fun i _ => (intOf i).toNat)
              case atStart => exact ⟨L.length, Nat.le_refl _, rfl, Lib.hid (fun j hj h => absurd h (by omega)), Lib.hid (World.grownBy.refl _ _)⟩
              case round =>
                obtain ⟨t, ht, rfl, HHI, HM⟩ := hrel
                rcases t with _ | m
                · go_upto_region 13 with (fail)
                  go_quiet (fail)
                  go_wp2_with fail
                  go_meet
                  exact ⟨0, Nat.zero_le _, rfl, HHI, Lib.hid (fun j hj h => absurd h (by omega)), Lib.hid (more_trans HM.out (grownBy_drewN _ _ _))⟩
                · have hmL : m < L.length := by omega
                  obtain ⟨b3, off3, hga, _, hc⟩ := (Row.of_owns HO5.out).atC rC_len hmL
                  subst hga
                  have e0 := hc 0 (.int .i64 (L[m].x : Nat)) rfl
                  have e1 := hc 1 (.int .i64 L[m].s) rfl
                  have e2 := hc 2 (.int .i64 L[m].i) rfl
                  have e3 := hc 3 (.int .i64 L[m].o) rfl
                  rw [Nat.add_zero] at e0
                  clear hc
                  have HNX := Lib.hid (show befR ⟨rx, rs, ri, ro⟩ L[m] = true → ∀ j (hj : j < L.length), m ≤ j → befR ⟨rx, rs, ri, ro⟩ L[j] = true from fun hz j hj hst => by
                    rcases Nat.lt_or_ge m j with h1 | h1
                    · exact HHI.out j hj h1
                    · obtain rfl : j = m := by omega
                      exact hz)
                  have HNE2 := Lib.hid (show befR ⟨rx, rs, ri, ro⟩ L[m] = false → ∀ j (hj : j < L.length), j + 1 = m + 1 → befR ⟨rx, rs, ri, ro⟩ L[j] = false from fun hz j hj hst => by
                    obtain rfl : j = m := by omega
                    exact hz)
                  have HTA := Lib.hid hmL
                  generalize L[m] = l at *
                  obtain ⟨lx, lS, lI, lO⟩ := l
                  dsimp only at *
                  have HLE := Lib.hid (fun (W : World) => before29_any ⟨rx, rs, ri, ro⟩ ⟨lx, lS, lI, lO⟩ W)
                  dsimp only at HLE
                  obtain ⟨z, HZ⟩ : ∃ z, Hid (befR ⟨rx, rs, ri, ro⟩ ⟨lx, lS, lI, lO⟩ = z) := ⟨_, Lib.hid rfl⟩
                  rw [HZ.out] at HLE
                  have HK := Lib.hid (show ∀ W, More w5' W → (W.cell? ⟨b3, off3 + m * 4, none⟩ = some (.int .i64 (lx : Int)) ∧ W.cell? ⟨b3, off3 + m * 4 + 1, none⟩ = some (.int .i64 lS) ∧ W.cell? ⟨b3, off3 + m * 4 + 2, none⟩ = some (.int .i64 lI) ∧ W.cell? ⟨b3, off3 + m * 4 + 3, none⟩ = some (.int .i64 lO) ∧ W.cell? ⟨XB, 0, none⟩ = some (.int .i64 (rx : Int)) ∧ W.cell? ⟨XB, 1, none⟩ = some (.int .i64 rs) ∧ W.cell? ⟨XB, 2, none⟩ = some (.int .i64 ri) ∧ W.cell? ⟨XB, 3, none⟩ = some (.int .i64 ro)) from fun W h => ⟨h.cell e0, h.cell e1, h.cell e2, h.cell e3, h.cell (cell_of_blk HXB.out rfl), h.cell (cell_of_blk HXB.out rfl), h.cell (cell_of_blk HXB.out rfl), h.cell (cell_of_blk HXB.out rfl)⟩)
                  clear e0 e1 e2 e3
                  have HL := Lib.hid (more_trans HM.out (more_drew wr))
                  have jz1 : (m : Int) < (L.length : Int) := by omega
                  have hwp : IntKind.i64.wrap (m : Int) = (m : Int) := by rw [IntKind.wrap_i64]; omega
                  have z0 : (0 : Int) ≤ (m : Int) + 1 := by omega
                  have hjaz' : (0 : Int) < (m : Int) + 1 := by omega
                  have hm36 : m ≤ 36 := by omega
                  go_upto_region 13 with (fail)
                  go_region_held3 (fun W => W.cell? ⟨b3, off3 + m * 4, none⟩ = some (.int .i64 (lx : Int)) ∧ W.cell? ⟨b3, off3 + m * 4 + 1, none⟩ = some (.int .i64 lS) ∧ W.cell? ⟨b3, off3 + m * 4 + 2, none⟩ = some (.int .i64 lI) ∧ W.cell? ⟨b3, off3 + m * 4 + 3, none⟩ = some (.int .i64 lO) ∧ W.cell? ⟨XB, 0, none⟩ = some (.int .i64 (rx : Int)) ∧ W.cell? ⟨XB, 1, none⟩ = some (.int .i64 rs) ∧ W.cell? ⟨XB, 2, none⟩ = some (.int .i64 ri) ∧ W.cell? ⟨XB, 3, none⟩ = some (.int .i64 ro)) (first | with_reducible exact HK.out _ HL.out) (first | (go_at_call 29; refine (HLE.out _).mono ?_; rintro e w9 ⟨rfl, hm9⟩; have HL := Lib.hid (more_trans HL.out hm9); clear hm9))
                  all_goals
                    have hta9 := HTA.out
                    cases z with
                    | true =>
                      have HN9 := Lib.hid (HNX.out HZ.out)
                      go_wp2_with fail
                      go_roundw
                      case rel => exact ⟨m, by omega, by go_num, HN9, HL⟩
                      case measure => simp [intOf]
                    | false =>
                      have HN9 := Lib.hid (HNE2.out HZ.out)
                      go_wp2_with fail
                      go_meet
                      exact ⟨m + 1, by omega, by first | rfl | (simp; done) | go_num, HHI, HN9, HL⟩
          case rest =>
            obtain ⟨t, ht, rfl, HHI, HLO, HM6⟩ := hcut
            obtain ⟨w7, rfl⟩ : ∃ w7 : World, w7 = wc := ⟨_, rfl⟩
            have HO7 := Lib.hid (owns_keep HO5.out (fun z hz => HM6.out.block (HO5.out.lt z hz).2))
            have HXB7 := Lib.hid ((HM6.out.block (blk_lt HXB.out)).trans HXB.out)
            have HB7 := Lib.hid (HB5.out.trans (HM6.out.below.mono HSZ.out))
            have HSZ7 := Lib.hid (Nat.le_trans HSZ.out HM6.out.size)
            have HA9 := Lib.hid (HIS.out t ht HHI.out HLO.out)
            clear HIS HHI HLO
            obtain ⟨⟨ga2, hs1, hr1, hn1'⟩, hs2, hr2, hn2⟩ := slice46 (c := rC) rC_len ga L.length gcp t ht rfl ((Row.of_owns HO7.out).mono (S' := anyB) (fun _ _ => trivial) (fun _ _ _ _ h => h)) (owns_nil HO7.out)
            have HO1 := Lib.hid (rC_one (L.drop t))
            have HO2 := Lib.hid (rC_one (L.take t))
            have HDL := Lib.hid (show (L.drop t).length = L.length - t by rw [List.length_drop])
            have HTL := Lib.hid (show (L.take t).length = t by rw [List.length_take]; omega)
            have HFX := Lib.hid (show flatC rC (L.take t) ++ ([.int .i64 (rx : Int), .int .i64 rs, .int .i64 ri, .int .i64 ro] ++ flatC rC (L.drop t)) = flatC rC (L.take t ++ ⟨rx, rs, ri, ro⟩ :: L.drop t) by rw [flatC_append]; rfl)
            have HLX := Lib.hid (show (L.take t ++ (⟨rx, rs, ri, ro⟩ : RTd) :: L.drop t).length = t + (1 + (L.length - t)) by rw [List.length_append, List.length_cons, List.length_take, List.length_drop]; omega)
            rw [HDL.out] at hr1
            rw [HTL.out] at hr2
            have HNS9 := Lib.hid (show L.length - t ≤ 100 by omega)
            generalize L.length - t = n1 at *
            generalize gcp - t = c1 at *
            have HR1 := Lib.hid hr1
            have HR2 := Lib.hid hr2
            have HN1 := Lib.hid hn1'
            have HN2 := Lib.hid hn2
            clear hr1 hr2 hn1' hn2
            have x0 : w7.cell? ⟨XB, 0, none⟩ = some (.int .i64 (rx : Int)) := cell_of_blk HXB7.out rfl
            have x1 : w7.cell? ⟨XB, 1, none⟩ = some (.int .i64 rs) := cell_of_blk HXB7.out rfl
            have x2 : w7.cell? ⟨XB, 2, none⟩ = some (.int .i64 ri) := cell_of_blk HXB7.out rfl
            have x3 : w7.cell? ⟨XB, 3, none⟩ = some (.int .i64 ro) := cell_of_blk HXB7.out rfl
            have s0 : w7.drew.cell? ⟨XB, 0, none⟩ = some (.int .i64 (rx : Int)) := x0
            have s1 : w7.drew.cell? ⟨XB, 1, none⟩ = some (.int .i64 rs) := x1
            have s2 : w7.drew.cell? ⟨XB, 2, none⟩ = some (.int .i64 ri) := x2
            have s3 : w7.drew.cell? ⟨XB, 3, none⟩ = some (.int .i64 ro) := x3
            have HML := Lib.hid (show More w7 ((w7.alloc (.cells #[.int .i64 (rx : Int), .int .i64 rs, .int .i64 ri, .int .i64 ro] 77)).drew) from more_trans (more_alloc _ _) (more_drew _))
            have HOL2 := Lib.hid (show ((w7.alloc (.cells #[.int .i64 (rx : Int), .int .i64 rs, .int .i64 ri, .int .i64 ro] 77)).drew).ownsRow N 77 4 (.slice (some ⟨w7.heap.size, 0, none⟩) 1 1) 1 [.int .i64 (rx : Int), .int .i64 rs, .int .i64 ri, .int .i64 ro] from owns_laid w7 #[.int .i64 (rx : Int), .int .i64 rs, .int .i64 ri, .int .i64 ro] 77 N 1 4 HSZ7.out rfl (by unfold maxLen; omega))
            have HR8 := Lib.hid (HR1.out.below HML.out.below)
            have hm1 : 1 + n1 ≤ maxLen := by have := HNS9.out; unfold maxLen; omega
            have hm2 : (1 + n1) * 32 ≤ 140737488355328 := by have := HNS9.out; omega
            have hb7 : N ≤ ((w7.alloc (.cells #[.int .i64 (rx : Int), .int .i64 rs, .int .i64 ri, .int .i64 ro] 77)).drew).heap.size := Nat.le_trans HSZ7.out HML.out.size
            go_upto_region 15 with (fail)
            go_region_held3 (fun W => W.cell? ⟨XB, 0, none⟩ = some (.int .i64 (rx : Int)) ∧ W.cell? ⟨XB, 1, none⟩ = some (.int .i64 rs) ∧ W.cell? ⟨XB, 2, none⟩ = some (.int .i64 ri) ∧ W.cell? ⟨XB, 3, none⟩ = some (.int .i64 ro)) (first | with_reducible exact ⟨s0, s1, s2, s3⟩ | with_reducible exact ⟨allocd_cell (a := ⟨XB, 0, none⟩) _ x0, allocd_cell (a := ⟨XB, 1, none⟩) _ x1, allocd_cell (a := ⟨XB, 2, none⟩) _ x2, allocd_cell (a := ⟨XB, 3, none⟩) _ x3⟩ | with_reducible exact ⟨y0, y1, y2, y3⟩)
              (first | (refine step_append_rowC (by rfl) _ _ _ (by rfl) N 77 i0 _ 4 32 Tryz.underlying46 hi0 hz0 hz1 hz2 (by rfl) (by omega) (.slice (some ⟨w7.heap.size, 0, none⟩) 1 1) 1 [.int .i64 (rx : Int), .int .i64 rs, .int .i64 ri, .int .i64 ro] (by rfl) HOL2.out (.slice ga2 n1 c1) n1 (flatC rC (L.drop t)) (by rfl) HR8.out HN1.out HO1.out hm1 hm2 hb7 ?_; intro v8 w8 hown8 hgrow8; obtain ⟨g8, cp8, rfl, _, _⟩ := hown8.form (by omega); have y0 := World.grownBy.cell hgrow8 (allocd_cell (a := ⟨XB, 0, none⟩) _ x0) (fun e => (by have h9 := blk_lt HXB7.out; have e9 : XB = w7.heap.size := Option.some.inj e; omega)); have y1 := World.grownBy.cell hgrow8 (allocd_cell (a := ⟨XB, 1, none⟩) _ x1) (fun e => (by have h9 := blk_lt HXB7.out; have e9 : XB = w7.heap.size := Option.some.inj e; omega)); have y2 := World.grownBy.cell hgrow8 (allocd_cell (a := ⟨XB, 2, none⟩) _ x2) (fun e => (by have h9 := blk_lt HXB7.out; have e9 : XB = w7.heap.size := Option.some.inj e; omega)); have y3 := World.grownBy.cell hgrow8 (allocd_cell (a := ⟨XB, 3, none⟩) _ x3) (fun e => (by have h9 := blk_lt HXB7.out; have e9 : XB = w7.heap.size := Option.some.inj e; omega)); have HO8 := Lib.hid hown8; have HG8 := Lib.hid hgrow8; clear hown8 hgrow8))
            all_goals
              clear s0 s1 s2 s3 x0 x1 x2 x3 y0 y1 y2 y3 hm1 hm2 hb7 hs1
              have HB8 := Lib.hid (show Below N w w8 from (HB7.out.trans (HML.out.below.mono HSZ7.out)).grown HG8.out (Nat.le_trans HSZ7.out HML.out.size) (fun z hz => by have e9 : w7.heap.size = z := Option.some.inj hz; have := HSZ7.out; omega))
              have HSZ8 := Lib.hid (show N ≤ w8.heap.size from Nat.le_trans HSZ7.out (Nat.le_trans HML.out.size HG8.out.size))
              have HR28 := Lib.hid (show Row anyB w8 4 t (.slice ga t gcp) (flatC rC (L.take t)) from ((HR2.out.lt (by omega)).mono (S' := anyB) (fun _ _ => trivial) (fun b off x hb hc => by
                rw [← hc]
                have h1 : b < w7.heap.size := hb.2
                exact World.cell?_of_block (w := w7) (a := ⟨b, off, none⟩) ((HG8.out.block b (Nat.lt_of_lt_of_le h1 HML.out.size) (fun e => by have e9 : b = w7.heap.size := Option.some.inj e; omega)).trans (HML.out.block h1)))))
              obtain ⟨N3, HN3⟩ : ∃ N3, Hid (N3 = w8.heap.size) := ⟨_, Lib.hid rfl⟩
              have HOE := Lib.hid (show (w8.alloc (.cells #[] 77)).ownsRow N3 77 4 (.slice (some ⟨w8.heap.size, 0, none⟩) 0 0) 0 [] by rw [HN3.out]; exact ownsRow_empty w8 77 4)
              have HME := Lib.hid (more_alloc w8 (.cells #[] 77))
              have HR29 := Lib.hid (HR28.out.below HME.out.below)
              have HRST := Lib.hid (fun (W : World) (hW : ∀ b, b < N3 → W.heap[b]? = w8.heap[b]?) => (show Row anyB W 4 (1 + n1) (.slice (some ⟨g8, 0, none⟩) (1 + n1) cp8) ([.int .i64 (rx : Int), .int .i64 rs, .int .i64 ri, .int .i64 ro] ++ flatC rC (L.drop t)) from ((Row.of_owns HO8.out).mono (S' := anyB) (fun _ _ => trivial) (fun _ _ _ _ h => h) |> fun r => ((r.lt (by omega)).mono (S' := anyB) (fun _ _ => trivial) (fun b off x hb hc => by
                rw [← hc]
                exact World.cell?_of_block (w := w8) (a := ⟨b, off, none⟩) (hW b (by rw [HN3.out]; exact hb.2)))))))
              have HNR := Lib.hid (owns_nil HO8.out)
              have hm3 : 0 + t ≤ maxLen := by unfold maxLen; omega
              have hm4 : (0 + t) * 32 ≤ 140737488355328 := by omega
              have hb3 : N3 ≤ (w8.alloc (.cells #[] 77)).heap.size := by rw [HN3.out, World.size_alloc]; omega
              have HON2 := Lib.hid (show ∀ u ∈ [Value.int .i64 (rx : Int), .int .i64 rs, .int .i64 ri, .int .i64 ro] ++ flatC rC (L.drop t), u.oneCell' = true from fun u hu => by
                rcases List.mem_append.1 hu with h1 | h1
                · simp only [List.mem_cons, List.not_mem_nil, or_false] at h1; rcases h1 with rfl | rfl | rfl | rfl <;> rfl
                · exact HO1.out u h1)
              have hnb := HNS9.out
              go_wp2_with (at_builtin; first
                | (refine wpList_append_rowC rfl _ _ 46 rfl N3 77 i0 _ 4 32 Tryz.underlying46 hi0 hz0 hz1 hz2 rfl (by omega) (.slice (some ⟨w8.heap.size, 0, none⟩) 0 0) 0 [] rfl HOE.out (.slice ga t gcp) t (flatC rC (L.take t)) rfl HR29.out HN2.out HO2.out hm3 hm4 hb3 ?_; intro v10 w10 hown10 hgrow10; have HK10 := Lib.hid (show ∀ b, b < N3 → w10.heap[b]? = w8.heap[b]? from fun b hb => (hgrow10.block b (by have := HME.out.size; have := HN3.out; omega) (fun e => (by have e9 : b = w8.heap.size := Option.some.inj e; have := HN3.out; omega))).trans (HME.out.block (by rw [← HN3.out]; exact hb))); have HR10 := Lib.hid (HRST.out w10 HK10.out); have hb10 : N3 ≤ w10.heap.size := Nat.le_trans hb3 hgrow10.size; have hm5 : 0 + t + (1 + n1) ≤ maxLen := (by unfold maxLen; omega); have hm6 : (0 + t + (1 + n1)) * 32 ≤ 140737488355328 := (by omega))
                | (refine wpList_append_rowC rfl _ _ 46 rfl N3 77 i0 _ 4 32 Tryz.underlying46 hi0 hz0 hz1 hz2 rfl (by omega) v10 (0 + t) ([] ++ flatC rC (L.take t)) rfl hown10 (.slice (some ⟨g8, 0, none⟩) (1 + n1) cp8) (1 + n1) ([.int .i64 (rx : Int), .int .i64 rs, .int .i64 ri, .int .i64 ro] ++ flatC rC (L.drop t)) rfl HR10.out HNR.out HON2.out hm5 hm6 hb10 ?_; intro v11 w11 hown11 hgrow11))
              have HZ10 := Lib.hid (fun z hz => (hown10.lt z hz).1)
              rw [Nat.zero_add, List.nil_append] at hown11
              have HO11 := Lib.hid (show w11.ownsRow N 77 4 v11 (L.take t ++ (⟨rx, rs, ri, ro⟩ : RTd) :: L.drop t).length (flatC rC (L.take t ++ ⟨rx, rs, ri, ro⟩ :: L.drop t)) by
                rw [HLX.out, ← HFX.out]
                exact owns_base hown11 (by rw [HN3.out]; exact HSZ8.out))
              have HB11 := Lib.hid (show Below N w w11 from (((HB8.out.alloc HSZ8.out (.cells #[] 77)).grown hgrow10 (Nat.le_trans HSZ8.out HME.out.size) (fun z hz => by have e9 : w8.heap.size = z := Option.some.inj hz; have := HSZ8.out; omega)).grown hgrow11 (by have := HSZ8.out; have := HN3.out; omega) (fun z hz => by have := HZ10.out z hz; have := HSZ8.out; have := HN3.out; omega)))
              clear hown10 hown11 hgrow10 hgrow11 hm3 hm4 hm5 hm6 hb3 hb10
              go_wp2_with fail
              go_roundw
              case rel => exact ⟨x + 1, _, by omega, by go_num, HA9, HO11, HB11⟩
              case measure => simp [intOf]; omega
    · obtain rfl : x = bd := by omega
      go_wp2_with fail
      go_ret
      exact ⟨⟨L, _, rfl, HA.out, (Row.of_owns HO.out).mono (fun _ _ => trivial) (fun _ _ _ _ h => h)⟩, by rw [← HN.out]; exact HB.out⟩
end Go.Proofs.YtemeppfikpafbaaGreat

