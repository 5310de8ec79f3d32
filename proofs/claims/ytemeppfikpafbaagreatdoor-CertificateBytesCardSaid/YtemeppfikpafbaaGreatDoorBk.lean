/- Texts BchG, laid together. -/
import Derived.Test.YtemeppfikpafbaaGreatDoorBj
/- (certificate.Certificate).Bytes (56) of any certificate. -/
namespace Go.Proofs.YtemeppfikpafbaaGreatDoor
open Go.RowKit
theorem arOkb_each : ∀ {l : List AV} {last : Int}, 1 ≤ last → arOkb last l = true → ∀ a ∈ l, 1 ≤ a.2.tk ∧ 0 ≤ a.2.hd ∧ a.2.hd < 8 ∧ a.2.l.length ≤ 4
  | [], _, _, _, q, hq => by simp at hq
  | a :: r, last, h1, h, q, hq => by
    unfold arOkb at h
    split at h
    · cases h
    · rename_i hn
      rcases List.mem_cons.1 hq with rfl | h2
      · omega
      · exact arOkb_each (by omega) h q h2
set_option maxRecDepth 100000 in
set_option maxHeartbeats 1000000 in
theorem bytes56_bad (arr : Array Value) (c : Cert) (w : World) (hc : CertAt w arr c) (hk : ¬ Chk c 0) : Calls Tryz.prog 6 #[.agg arr] w fun e w' => e = .returned (.slice none 0 0) ∧ Below w.heap.size w w' := by
  have HSZ := Lib.hid hc.size
  obtain ⟨N, HN⟩ : ∃ N, Hid (N = w.heap.size) := ⟨_, Lib.hid rfl⟩
  have HB1 := Lib.hid (alloc_last w (.cells arr 35))
  have HM1 := Lib.hid (more_alloc w (.cells arr 35))
  rw [← HN.out] at HB1 ⊢
  have HC50 := Lib.hid (fun W (hW : More w W) => check50_any arr c W (hc.more hW))
  go_enter Tryz.func6, Tryz.ntmps6
  go_upto_region 1 with (fail)
  rw [← HN.out]
  generalize w.alloc (.cells arr 35) = w1 at *
  go_wp2_with (refine wpList_load98 rfl _ rfl N rfl arr HB1.out HSZ.out ?_)
  refine (HC50.out w1 HM1.out).mono ?_
  rintro e w2 ⟨⟨E, rfl, hE⟩, hb2⟩
  have hne : (E != 0) = true := by rw [bne_iff_ne]; rintro rfl; exact hk hE
  have HM2 := Lib.hid (more_trans HM1.out (more_of hb2))
  clear hb2 hE
  go_wp2_with fail
  go_ret
  exact ⟨rfl, by rw [HN.out]; exact HM2.out.below⟩
set_option maxRecDepth 100000 in
set_option maxHeartbeats 4000000 in
theorem bytes56_ok (arr : Array Value) (c : Cert) (fl : List Int) (w : World) (hc : CertAt w arr c) (hfl : fl.length = 32) (hfa : ∀ (j : Nat) (n : Int), fl[j]? = some n → arr[j]? = some (.int .u8 n)) (hi : ∀ p ∈ c.S, ∀ n ∈ p.2.l, In64 n) (hh : ∀ p ∈ c.H, ∀ a ∈ p.2.al, ∀ n ∈ a.2.l, In64 n) (hk : Chk c 0) :
    Calls Tryz.prog 6 #[.agg arr] w fun e w' => (∃ v, e = .returned v ∧ w'.ownsRow w.heap.size 5 1 v (encCt fl c).length (bV (encCt fl c))) ∧ Below w.heap.size w w' := by
  obtain ⟨q, hor, sv, Sl, uv, U, hv, H, wit, spl⟩ := c
  dsimp only at hh hi
  have HC := Lib.hid hc
  have HK := Lib.hid hk
  obtain ⟨k1, k2, k3, ⟨_, k4⟩, k5⟩ := chk0 hk
  unfold R2 at k2; unfold R1 at k3; unfold HS at k5
  dsimp only at k1 k2 k3 k4 k5
  obtain ⟨hsz, h32, h33, h34, h35, h36, h37, h38, hset, hund, hhol, heach, hul, hhl⟩ := hc
  dsimp only at *
  obtain ⟨hn, hhn⟩ : ∃ n : Nat, hor = n := ⟨hor.toNat, by omega⟩
  obtain ⟨wn, hwn⟩ : ∃ n : Nat, wit = n := ⟨wit.toNat, by omega⟩
  obtain ⟨sn, hsn⟩ : ∃ n : Nat, spl = n := ⟨spl.toNat, by omega⟩
  subst hhn hwn hsn
  obtain ⟨ua, uc, rfl, _⟩ := hund.shape
  obtain ⟨ha, hcp, rfl, _⟩ := hhol.shape
  obtain ⟨sa, sc, rfl, _⟩ := hset.row.shape
  have HUND := Lib.hid hund; have HHOL := Lib.hid hhol; have HEACH := Lib.hid heach; have HHO := Lib.hid k4; have HHI := Lib.hid hh; clear hund hhol hset heach k4 hh hk
  have HI := Lib.hid hi; clear hi
  have HKO := Lib.hid (show ∀ k ∈ U, KeyOk k from fun k hm => key_of_hs HC.out.set.ok (k5 k hm)); clear k5
  have HSL := Lib.hid (encS_len HC.out.set.len HC.out.set.ok HI.out)
  have HSM := Lib.hid (show hn ≤ 200 ∧ wn ≤ 2 ∧ sn ≤ 200 ∧ q.size ≤ 2000 ∧ U.length ≤ 3 ∧ H.length ≤ 2 by omega); clear k1 k2 k3 hul hhl
  have HSZ := Lib.hid hsz; clear hsz
  have H32 := Lib.hid h32; clear h32
  have H33 := Lib.hid h33; clear h33
  have H34 := Lib.hid h34; clear h34
  have H35 := Lib.hid h35; clear h35
  have H36 := Lib.hid h36; clear h36
  have H37 := Lib.hid h37; clear h37
  have H38 := Lib.hid h38; clear h38
  have h32 := H32; clear H32
  have h33 := H33; clear H33
  have h34 := H34; clear H34
  have h35 := H35; clear H35
  have h36 := H36; clear H36
  have h37 := H37; clear H37
  have h38 := H38; clear H38
  obtain ⟨R, HR⟩ : ∃ R, Hid (R = encCt fl ⟨q, hn, .slice sa Sl.length sc, Sl, .slice ua U.length uc, U, .slice ha H.length hcp, H, wn, sn⟩) := ⟨_, Lib.hid rfl⟩
  rw [← HR.out]
  obtain ⟨i0, hi0, hz0, hz1, hz2⟩ := info_parts infoB
  obtain ⟨N, HN⟩ : ∃ N, Hid (N = w.heap.size) := ⟨_, Lib.hid rfl⟩
  have HB1 := Lib.hid (alloc_last w (.cells arr 35))
  have HM1 := Lib.hid (more_alloc w (.cells arr 35))
  rw [← HN.out] at HB1 ⊢
  go_enter Tryz.func6, Tryz.ntmps6
  go_upto_region 1 with (fail)
  rw [← HN.out]
  generalize w.alloc (.cells arr 35) = w1 at *
  have HC50 := Lib.hid (check50_any arr _ w1 (HC.out.more HM1.out))
  go_wp2_with (refine wpList_load98 rfl _ rfl N rfl arr HB1.out HSZ.out ?_)
  refine HC50.out.mono ?_
  rintro e w2 ⟨⟨E, rfl, hE⟩, hb2⟩
  obtain rfl : E = 0 := hE.same HK.out
  clear hE HC50
  have HM2 := Lib.hid (more_trans HM1.out (more_of hb2))
  have HB2 := Lib.hid (((more_of hb2).block (blk_lt HB1.out)).trans HB1.out)
  clear hb2
  have HO2 := Lib.hid (World.ownsRow_lit (base := N + 1) (e := 5) (size := 1) w2 #[.int .u8 1] 1 (blk_lt HB2.out) (by unfold maxLen; omega) rfl)
  have HM3 := Lib.hid (more_alloc w2 (.cells #[.int .u8 1] 5))
  have HPB0 := Lib.hid (show PB N w arr (w2.alloc (.cells #[.int .u8 1] 5)) [1] (.slice (some ⟨w2.heap.size, 0, none⟩) 1 1) from ⟨HO2.out, by rw [HN.out]; exact (more_trans HM2.out HM3.out).below, (HM3.out.block (blk_lt HB2.out)).trans HB2.out⟩)
  have HFL := Lib.hid (show Row anyB (w2.alloc (.cells #[.int .u8 1] 5)) 1 32 (.slice (some ⟨N, 0, none⟩) 32 32) (bV fl) from ⟨by rw [bV_length, hfl], _, _, rfl, Nat.le_refl _, fun _ => ⟨N, 0, rfl, trivial, fun j u hj => by
    have hj2 : (fl.map (Value.int .u8))[j]? = some u := hj
    rw [List.getElem?_map, Option.map_eq_some_iff] at hj2
    obtain ⟨n, h1, rfl⟩ := hj2
    rw [Nat.zero_add]
    exact cell_of_blk HPB0.out.box (hfa j n h1)⟩⟩)
  go_upto_region 4 with (at_builtin; refine wpList_append_rowC rfl _ _ 26 rfl (N + 1) 5 i0 _ 1 1 Tryz.underlying26 hi0 hz0 hz1 hz2 rfl (by omega) (.slice (some ⟨w2.heap.size, 0, none⟩) 1 1) 1 (bV [1]) rfl HPB0.out.own (.slice (some ⟨N, 0, none⟩) 32 32) 32 (bV fl) rfl HFL.out (fun n c e => by cases e) (bV_one fl) (by unfold maxLen; omega) (by omega) HPB0.out.ns ?_; intro v3 w3 hown3 hgrow3; obtain ⟨ga, gc, rfl, _⟩ := owns_shape hown3)
  have HPB := Lib.hid (HPB0.out.grow (Q := [1] ++ fl) (v' := .slice ga 33 gc) (by rw [List.length_append, hfl, bV_append]; exact hown3) hgrow3)
  clear hown3 hgrow3 HPB0 HFL HO2
  have hl0 : ([1] ++ fl : List Int).length = 33 := by rw [List.length_append, hfl]; rfl
  generalize hO : ([1] ++ fl : List Int) = O1 at *
  have HO1 := Lib.hid hO; clear hO
  have HL1 := Lib.hid hl0; clear hl0
  obtain ⟨w3, rfl⟩ : ∃ wz : World, wz = w3 := ⟨_, rfl⟩
  have n32 : w3.cell? ⟨N, 32, none⟩ = some (.string q) := cell_of_blk HPB.out.box h32.out
  have hbn := cell_lt n32
  have hcv := run_bytes_of_string (P := Tryz.prog) w3 9 26 5 q Tryz.underlying9 Tryz.underlying26 Tryz.underlying5
  obtain ⟨qc, HQC⟩ : ∃ qc, Hid (grownCap w3 q.size 0 5 = qc) := ⟨_, Lib.hid rfl⟩
  rw [HQC.out] at hcv
  have HQM := Lib.hid (show More w3 (w3.drew.alloc (.cells (bytesRow q qc) 5 ((bytesRow q qc).size, (bytesRow q qc).size + 1))) from more_trans (more_drew _) (more_alloc _ _))
  have HQA := Lib.hid (alloc_last w3.drew (.cells (bytesRow q qc) 5 ((bytesRow q qc).size, (bytesRow q qc).size + 1)))
  have hdz : w3.drew.heap.size = w3.heap.size := rfl
  rw [hdz] at HQA
  clear hdz
  generalize w3.drew.alloc (.cells (bytesRow q qc) 5 ((bytesRow q qc).size, (bytesRow q qc).size + 1)) = w4 at *
  obtain ⟨QB, HQE⟩ : ∃ QB, Hid (QB = w3.heap.size) := ⟨_, Lib.hid rfl⟩
  rw [← HQE.out] at HQA hcv
  have HQR := Lib.hid (show ByG w4 (qB q) (.slice (some ⟨QB, 0, none⟩) q.size qc) from ⟨by
      refine ⟨by rw [bV_length, Nat.mul_one], _, _, by rw [qB_len], by rw [qB_len, ← HQC.out]; exact grownCap_ge _ _ _ _, fun _ => ⟨QB, 0, rfl, trivial, fun j u hj => ?_⟩⟩
      have hj2 : ((qB q).map (Value.int .u8))[j]? = some u := hj
      unfold qB at hj2
      rw [List.map_map, List.getElem?_map, Option.map_eq_some_iff] at hj2
      obtain ⟨x, h1, rfl⟩ := hj2
      rw [Nat.zero_add, cell_of_row w4 QB j _ 5 _ HQA.out]
      unfold bytesRow
      rw [Array.getElem?_append_left (by rw [Array.size_map]; rw [Array.getElem?_toList] at h1; exact (Array.getElem?_eq_some_iff.1 h1).1), Array.getElem?_map, ← Array.getElem?_toList, h1]
      rfl, fun n c e => by cases e⟩)
  have HP4 := Lib.hid (HPB.out.more HQM.out)
  have HCB := Lib.hid (putBytes101_any O1 (qB q) _ _ w4 (by rw [HL1.out]; omega) (by rw [qB_len]; have := HSM.out.2.2.2.1; omega) HP4.out.byg HQR.out)
  go_wp2_with fail
  refine HCB.out.mono ?_
  rintro e w5 ⟨⟨v2, rfl, ho2⟩, hb2⟩
  have HPB2 := Lib.hid (HP4.out.put ho2 hb2)
  obtain ⟨va2, vc2, rfl, _⟩ := owns_shape ho2
  clear ho2 hb2
  have HL2 := Lib.hid (show (O1 ++ encU (qB q).length ++ qB q).length ≤ 2043 from by simp only [List.length_append]; rw [qB_len]; have := HL1.out; have := HSM.out.2.2.2.1; have := encU_len q.size (by omega); omega)
  generalize hO2 : O1 ++ encU (qB q).length ++ qB q = O2 at *
  have HO2 := Lib.hid hO2; clear hO2
  clear n32 hbn hcv HCB HQR HQA HPB HP4
  have n33 : w5.cell? ⟨N, 33, none⟩ = some (.int .i64 hn) := cell_of_blk HPB2.out.box h33.out
  have hbn := cell_lt n33
  have HCB := Lib.hid (putInt102_any O2 _ hn w5 (by have := HSM.out.1; omega) (by have := HL2.out; omega) HPB2.out.byg)
  go_wp2_with fail
  refine HCB.out.mono ?_
  rintro e w6 ⟨⟨v3, rfl, ho3⟩, hb3⟩
  have HPB3 := Lib.hid (HPB2.out.put ho3 hb3)
  obtain ⟨va3, vc3, rfl, _⟩ := owns_shape ho3
  clear ho3 hb3
  have HL3 := Lib.hid (show (O2 ++ encU hn).length ≤ 2053 from by simp only [List.length_append]; have := HL2.out; have := HSM.out.1; have := encU_len hn (by omega); omega)
  generalize hO3 : O2 ++ encU hn = O3 at *
  have HO3 := Lib.hid hO3; clear hO3
  clear n33 hbn HCB
  have n34 : w6.cell? ⟨N, 34, none⟩ = some (.slice sa Sl.length sc) := cell_of_blk HPB3.out.box h34.out
  have hbn := cell_lt n34
  have HC97 := Lib.hid (bytes97_any Sl _ w6 (HC.out.set.more (more_of (by rw [← HN.out]; exact HPB3.out.low))) HI.out)
  go_wp2_with fail
  refine HC97.out.mono ?_
  rintro e w7 ⟨⟨vb, rfl, hob⟩, hbb⟩
  have HPB3b := Lib.hid (HPB3.out.more (more_of hbb))
  have HBS := Lib.hid (ByG.of_owns hob)
  obtain ⟨sba, sbc, rfl, _⟩ := owns_shape hob
  clear hob hbb n34 hbn HC97
  have HCB := Lib.hid (putBytes101_any O3 (encS (Sl.map (·.2))) _ _ w7 (by have := HL3.out; omega) (by have := HSL.out; omega) HPB3b.out.byg HBS.out)
  go_wp2_with fail
  refine HCB.out.mono ?_
  rintro e w8 ⟨⟨v4, rfl, ho4⟩, hb4⟩
  have HPB4 := Lib.hid (HPB3b.out.put ho4 hb4)
  obtain ⟨va4, vc4, rfl, _⟩ := owns_shape ho4
  clear ho4 hb4
  have HL4 := Lib.hid (show (O3 ++ encU (encS (Sl.map (·.2))).length ++ encS (Sl.map (·.2))).length ≤ 11769 from by simp only [List.length_append]; have := HL3.out; have := HSL.out; have := encU_len (encS (Sl.map (·.2))).length (by omega); omega)
  generalize hO4 : O3 ++ encU (encS (Sl.map (·.2))).length ++ encS (Sl.map (·.2)) = O4 at *
  have HO4 := Lib.hid hO4; clear hO4
  clear HCB HBS
  have n35 : w8.cell? ⟨N, 35, none⟩ = some (.slice ua U.length uc) := cell_of_blk HPB4.out.box h35.out
  have hbn := cell_lt n35
  have HCB := Lib.hid (putInt102_any O4 _ U.length w8 (by have := HSM.out.2.2.2.2.1; omega) (by have := HL4.out; omega) HPB4.out.byg)
  go_wp2_with fail
  refine HCB.out.mono ?_
  rintro e w9 ⟨⟨v5, rfl, ho5⟩, hb5⟩
  have HPB5 := Lib.hid (HPB4.out.put ho5 hb5)
  obtain ⟨va5, vc5, rfl, _⟩ := owns_shape ho5
  clear ho5 hb5
  have HL5 := Lib.hid (show (O4 ++ encU U.length).length ≤ 11779 from by simp only [List.length_append]; have := HL4.out; have := HSM.out.2.2.2.2.1; have := encU_len U.length (by omega); omega)
  generalize hO5 : O4 ++ encU U.length = O5 at *
  have HO5 := Lib.hid hO5; clear hO5
  clear n35 hbn HCB
  have n35 : w9.cell? ⟨N, 35, none⟩ = some (.slice ua U.length uc) := cell_of_blk HPB5.out.box h35.out
  have hbn := cell_lt n35
  have hu3 := HSM.out.2.2.2.2.1
  go_wp2_with fail
  clear n35 hbn
  go_loopw [3, 41] (fun p i wr => ∃ (j : Nat) (O : List Int), j ≤ U.length ∧ i = .int .i64 j ∧ Hid (PB N w arr wr O p) ∧ Hid (O = O5 ++ (U.take j).flatMap encK) ∧ Hid (O.length ≤ 11779 + j * 31)) (fun _ i _ => U.length - (intOf i).toNat)
  case atStart => exact ⟨0, O5, Nat.zero_le _, rfl, HPB5, Lib.hid (by simp), Lib.hid (by have := HL5.out; omega)⟩
  case round =>
    obtain ⟨j, O, hj, rfl, HPO, HOE, HOL⟩ := hrel
    obtain ⟨wo, rfl⟩ : ∃ wo : World, wo = wr := ⟨_, rfl⟩
    obtain ⟨oa, oc, rfl, _⟩ := owns_shape HPO.out.own
    have HMW := Lib.hid (show More w wo from more_of (by rw [← HN.out]; exact HPO.out.low))
    have hu3 := HSM.out.2.2.2.2.1
    by_cases hlt : j < U.length
    · obtain ⟨b, off, rfl, _, hc⟩ := HUND.out.atC kC_len hlt
      have e0 := HMW.out.cell (hc 0 (.int .u8 U[j].kind) rfl)
      have e1 := HMW.out.cell (hc 1 (.int .i64 U[j].a) rfl)
      have e2 := HMW.out.cell (hc 2 (.int .i64 U[j].b) rfl)
      have e3 := HMW.out.cell (hc 3 (.int .i64 U[j].n) rfl)
      rw [Nat.add_zero] at e0
      clear hc
      have HKX := Lib.hid (HKO.out _ (List.getElem_mem hlt))
      have HT := Lib.hid (show U.take (j + 1) = U.take j ++ [U[j]] from List.take_succ_eq_append_getElem hlt)
      have HLT := Lib.hid hlt
      generalize U[j] = x at *
      obtain ⟨kd, xa, xb, xn⟩ := x
      obtain ⟨na, hna⟩ : ∃ n : Nat, xa = n := ⟨xa.toNat, by have := HKX.out.a0; dsimp only at this; omega⟩
      obtain ⟨nb, hnb⟩ : ∃ n : Nat, xb = n := ⟨xb.toNat, by have := HKX.out.b0; dsimp only at this; omega⟩
      obtain ⟨nn, hnn⟩ : ∃ n : Nat, xn = n := ⟨xn.toNat, by have := HKX.out.n0; dsimp only at this; omega⟩
      subst hna hnb hnn
      dsimp only at e0 e1 e2 e3
      have HXS := Lib.hid (show na ≤ 7 ∧ nb ≤ 7 ∧ nn ≤ 65535 by have h1 := HKX.out.a1; have h2 := key_small HKX.out; have h3 := HKX.out.n1; dsimp only at h1 h2 h3; omega)
      have hbe := cell_lt e0
      have HXB := Lib.hid (alloc_last wo (.cells #[.int .u8 kd, .int .i64 na, .int .i64 nb, .int .i64 nn] 53))
      have HMO := Lib.hid (more_alloc wo (.cells #[.int .u8 kd, .int .i64 na, .int .i64 nb, .int .i64 nn] 53))
      go_upto_region 11 with (fail)
      clear e0 e1 e2 e3 hbe
      generalize wo.alloc (.cells #[.int .u8 kd, .int .i64 na, .int .i64 nb, .int .i64 nn] 53) = w10 at *
      obtain ⟨XB, HXE⟩ : ∃ XB, Hid (XB = wo.heap.size) := ⟨_, Lib.hid rfl⟩
      rw [← HXE.out] at HXB ⊢
      have HP10 := Lib.hid (HPO.out.more HMO.out)
      have x0 : w10.cell? ⟨XB, 0, none⟩ = some (.int .u8 kd) := cell_of_blk HXB.out rfl
      have hbx := cell_lt x0
      have HR1 := Lib.hid (show O.length + 1 ≤ maxLen ∧ (O.length + 1) * 1 ≤ 140737488355328 from by have h1 := HOL.out; have h2 := HLT.out; unfold maxLen; omega)
      go_upto_region 12 with (at_builtin; refine wpList_append_own _ rfl _ _ 26 rfl (N + 1) 5 i0 _ 1 1 Tryz.underlying26 hi0 hz0 hz1 hz2 rfl (by omega) (.slice oa O.length oc) O.length (bV O) rfl (owns_keep HP10.out.own (fun z hz => Below.heap_alloc w10 _ _ (HP10.out.own.lt z hz).2)) ⟨w10.heap.size, 0, none⟩ 1 1 [.int .u8 kd] rfl rfl (World.news_of_block (cs := #[.int .u8 kd]) (t := 5) (fr := (0, 0)) (alloc_last _ _)) (by simp [Value.oneCell']) HR1.out.1 HR1.out.2 (by rw [World.size_alloc]; exact Nat.le_succ_of_le HP10.out.ns) ?_; intro v11 w11 hown hgrow _)
      have HP11 := Lib.hid ((HP10.out.more (more_alloc w10 (.cells #[.int .u8 kd] 5))).grow (Q := O ++ [kd]) (v' := v11) (by rw [bV_push, List.length_append]; exact hown) hgrow)
      have HX11 := Lib.hid ((hgrow.block XB (by rw [World.size_alloc]; exact Nat.lt_succ_of_lt (blk_lt HXB.out)) (fun e => by have h1 := (HPO.out.own.lt XB e.symm).2; have h2 := HXE.out; omega)).trans ((Below.heap_alloc w10 _ _ (blk_lt HXB.out)).trans HXB.out))
      have HL6 := Lib.hid (show (O ++ [kd]).length ≤ 11780 + j * 31 by rw [List.length_append]; have := HOL.out; simp only [List.length_singleton]; omega)
      obtain ⟨ga, gc, rfl, _⟩ := owns_shape HP11.out.own
      clear hown hgrow x0 hbx
      generalize hO6 : O ++ [kd] = O6 at *
      have HO6 := Lib.hid hO6; clear hO6
      have x1 : w11.cell? ⟨XB, 1, none⟩ = some (.int .i64 na) := cell_of_blk HX11.out rfl
      have x2 : w11.cell? ⟨XB, 2, none⟩ = some (.int .i64 nb) := cell_of_blk HX11.out rfl
      have x3 : w11.cell? ⟨XB, 3, none⟩ = some (.int .i64 nn) := cell_of_blk HX11.out rfl
      have hbx := cell_lt x1
      have HK2 := Lib.hid (show ∀ W, More w11 W → (W.cell? ⟨XB, 1, none⟩ = some (.int .i64 na) ∧ W.cell? ⟨XB, 2, none⟩ = some (.int .i64 nb) ∧ W.cell? ⟨XB, 3, none⟩ = some (.int .i64 nn)) from fun W h => ⟨h.cell x1, h.cell x2, h.cell x3⟩)
      have HLL := Lib.hid (more_drew w11)
      have HP12 := Lib.hid (HP11.out.more HLL.out)
      refine wp_region_held_drew (S := fun W => W.cell? ⟨XB, 1, none⟩ = some (.int .i64 na) ∧ W.cell? ⟨XB, 2, none⟩ = some (.int .i64 nb) ∧ W.cell? ⟨XB, 3, none⟩ = some (.int .i64 nn)) (by kernel_rfl) (HK2.out _ HLL.out) (fun hHeld => ?_)
      refine wpAnyH_take (i := 0) (v := ?_) (by simp only [List.getElem?_toArray, List.getElem?_cons_zero]; exact rfl) (by kernel_rfl) (by kernel_rfl) (by kernel_rfl) (by exact fun _ _ _ h => h) (Or.inl ⟨by kernel_rfl, ?_⟩) hHeld ?_
      rotate_left
      · intro w hSw
        (try dsimp only at hSw)
        first | (go_simp; done) | (go_simp; with_reducible rfl)
      (try simp only [Act.put, List.setIfInBounds_toArray, List.set_cons_zero, List.set_cons_succ])
      refine wpAnyH_take (i := 1) (v := ?_) (by simp only [List.getElem?_toArray, List.getElem?_cons_succ, List.getElem?_cons_zero]; exact rfl) (by kernel_rfl) (by kernel_rfl) (by kernel_rfl) (by exact fun _ _ _ h => h) (Or.inl ⟨by kernel_rfl, ?_⟩) hHeld ?_
      rotate_left
      · intro w hSw
        (try dsimp only at hSw)
        first | (go_simp; done) | (go_simp; with_reducible rfl)
      (try simp only [Act.put, List.setIfInBounds_toArray, List.set_cons_zero, List.set_cons_succ])
      refine wpAnyH_take (i := 2) (v := ?_) (by simp only [List.getElem?_toArray, List.getElem?_cons_succ, List.getElem?_cons_zero]; exact rfl) (by kernel_rfl) (by kernel_rfl) (by kernel_rfl) (by exact fun _ _ _ h => h) (Or.inl ⟨by kernel_rfl, ?_⟩) hHeld ?_
      rotate_left
      · intro w hSw
        (try dsimp only at hSw)
        first | (go_simp; done) | (go_simp; with_reducible rfl)
      (try simp only [Act.put, List.setIfInBounds_toArray, List.set_cons_zero, List.set_cons_succ])
      refine wpAnyH_take (i := 4) (v := ?_) (by simp only [List.getElem?_toArray, List.getElem?_cons_succ, List.getElem?_cons_zero]; exact rfl) (by kernel_rfl) (by kernel_rfl) (by kernel_rfl) (by exact fun _ _ _ h => h) (Or.inl ⟨by kernel_rfl, ?_⟩) hHeld ?_
      rotate_left
      · intro w hSw
        (try dsimp only at hSw)
        first | (go_simp; done) | (go_simp; with_reducible rfl)
      (try simp only [Act.put, List.setIfInBounds_toArray, List.set_cons_zero, List.set_cons_succ])
      refine wpAnyH_take (i := 5) (v := ?_) (by simp only [List.getElem?_toArray, List.getElem?_cons_succ, List.getElem?_cons_zero]; exact rfl) (by kernel_rfl) (by kernel_rfl) (by kernel_rfl) (by exact fun _ _ _ h => h) (Or.inl ⟨by kernel_rfl, ?_⟩) hHeld ?_
      rotate_left
      · intro w hSw
        (try dsimp only at hSw)
        first | (go_simp; done) | (go_simp; with_reducible rfl)
      (try simp only [Act.put, List.setIfInBounds_toArray, List.set_cons_zero, List.set_cons_succ])
      refine wpAnyH_take (i := 7) (v := ?_) (by simp only [List.getElem?_toArray, List.getElem?_cons_succ, List.getElem?_cons_zero]; exact rfl) (by kernel_rfl) (by kernel_rfl) (by kernel_rfl) (by exact fun _ _ _ h => h) (Or.inl ⟨by kernel_rfl, ?_⟩) hHeld ?_
      rotate_left
      · intro w hSw
        (try dsimp only at hSw)
        first | (go_simp; done) | (go_simp; with_reducible rfl)
      (try simp only [Act.put, List.setIfInBounds_toArray, List.set_cons_zero, List.set_cons_succ])
      refine wpAnyH_take (i := 8) (v := ?_) (by simp only [List.getElem?_toArray, List.getElem?_cons_succ, List.getElem?_cons_zero]; exact rfl) (by kernel_rfl) (by kernel_rfl) (by kernel_rfl) (by exact fun _ _ _ h => h) (Or.inl ⟨by kernel_rfl, ?_⟩) hHeld ?_
      rotate_left
      · intro w hSw
        (try dsimp only at hSw)
        first | (go_simp; done) | (go_simp; with_reducible rfl)
      (try simp only [Act.put, List.setIfInBounds_toArray, List.set_cons_zero, List.set_cons_succ])
      have HCB := Lib.hid (putInt102_any O6 _ na w11.drew (by have := HXS.out; omega) (by have := HL6.out; have := HLT.out; omega) HP12.out.byg)
      refine wpAnyH_ready (rs := [3]) (by kernel_rfl) (by simp) ?_
      refine AllReadyH.cons (by simp only [List.getElem?_toArray, List.getElem?_cons_succ, List.getElem?_cons_zero]; exact rfl) (fun K hK => ?_) AllReadyH.nil
      rw [if_pos (by kernel_rfl)]
      go_simp
      refine HCB.out.mono ?_
      rintro e w12 ⟨⟨v7, rfl, ho7⟩, hb7⟩
      have HLL := Lib.hid (more_trans HLL.out (more_of hb7))
      have HPB7 := Lib.hid (HP12.out.put ho7 hb7)
      obtain ⟨va7, vc7, rfl, _⟩ := owns_shape ho7
      clear ho7 hb7
      have HL7 := Lib.hid (show (O6 ++ encU na).length ≤ 11790 + j * 31 from by simp only [List.length_append]; have := HL6.out; have h9 : na ≤ 9223372036854775807 := (by have := HXS.out; omega); have := encU_len na (by omega); omega)
      generalize hO7 : O6 ++ encU na = O7 at *
      have HO7 := Lib.hid hO7; clear hO7
      have K7 := HK2.out w12 HLL.out
      try go_wp2_with fail
      refine hK.out _ _ K7 (fun hHeld => ?_)
      clear hK K HCB
      (try simp only [Act.put, List.setIfInBounds_toArray, List.set_cons_zero, List.set_cons_succ])
      have HCB := Lib.hid (putInt102_any O7 _ nb w12 (by have := HXS.out; omega) (by have := HL7.out; have := HLT.out; omega) HPB7.out.byg)
      refine wpAnyH_ready (rs := [6]) (by kernel_rfl) (by simp) ?_
      refine AllReadyH.cons (by simp only [List.getElem?_toArray, List.getElem?_cons_succ, List.getElem?_cons_zero]; exact rfl) (fun K hK => ?_) AllReadyH.nil
      rw [if_pos (by kernel_rfl)]
      go_simp
      refine HCB.out.mono ?_
      rintro e w13 ⟨⟨v8, rfl, ho8⟩, hb8⟩
      have HLL := Lib.hid (more_trans HLL.out (more_of hb8))
      have HPB8 := Lib.hid (HPB7.out.put ho8 hb8)
      obtain ⟨va8, vc8, rfl, _⟩ := owns_shape ho8
      clear ho8 hb8
      have HL8 := Lib.hid (show (O7 ++ encU nb).length ≤ 11800 + j * 31 from by simp only [List.length_append]; have := HL7.out; have h9 : nb ≤ 9223372036854775807 := (by have := HXS.out; omega); have := encU_len nb (by omega); omega)
      generalize hO8 : O7 ++ encU nb = O8 at *
      have HO8 := Lib.hid hO8; clear hO8
      have K8 := HK2.out w13 HLL.out
      try go_wp2_with fail
      refine hK.out _ _ K8 (fun hHeld => ?_)
      clear hK K HCB
      (try simp only [Act.put, List.setIfInBounds_toArray, List.set_cons_zero, List.set_cons_succ])
      have HCB := Lib.hid (putInt102_any O8 _ nn w13 (by have := HXS.out; omega) (by have := HL8.out; have := HLT.out; omega) HPB8.out.byg)
      refine wpAnyH_ready (rs := [9]) (by kernel_rfl) (by simp) ?_
      refine AllReadyH.cons (by simp only [List.getElem?_toArray, List.getElem?_cons_succ, List.getElem?_cons_zero]; exact rfl) (fun K hK => ?_) AllReadyH.nil
      rw [if_pos (by kernel_rfl)]
      go_simp
      refine HCB.out.mono ?_
      rintro e w14 ⟨⟨v9, rfl, ho9⟩, hb9⟩
      have HLL := Lib.hid (more_trans HLL.out (more_of hb9))
      have HPB9 := Lib.hid (HPB8.out.put ho9 hb9)
      obtain ⟨va9, vc9, rfl, _⟩ := owns_shape ho9
      clear ho9 hb9
      have HL9 := Lib.hid (show (O8 ++ encU nn).length ≤ 11810 + j * 31 from by simp only [List.length_append]; have := HL8.out; have h9 : nn ≤ 9223372036854775807 := (by have := HXS.out; omega); have := encU_len nn (by omega); omega)
      generalize hO9 : O8 ++ encU nn = O9 at *
      have HO9 := Lib.hid hO9; clear hO9
      have K9 := HK2.out w14 HLL.out
      try go_wp2_with fail
      refine hK.out _ _ K9 (fun hHeld => ?_)
      clear hK K HCB
      (try simp only [Act.put, List.setIfInBounds_toArray, List.set_cons_zero, List.set_cons_succ])
      refine wpAnyH_take (i := 10) (v := ?_) (by simp only [List.getElem?_toArray, List.getElem?_cons_succ, List.getElem?_cons_zero]; exact rfl) (by kernel_rfl) (by kernel_rfl) (by kernel_rfl) (by exact fun _ _ _ h => h) (Or.inl ⟨by kernel_rfl, ?_⟩) hHeld ?_
      rotate_left
      · intro w hSw
        (try dsimp only at hSw)
        first | (go_simp; done) | (go_simp; with_reducible rfl)
      (try simp only [Act.put, List.setIfInBounds_toArray, List.set_cons_zero, List.set_cons_succ])
      refine wpAnyH_done (by kernel_rfl) ?_ _
      have hlt9 := HLT.out
      clear x1 x2 x3 hbx
      go_wp2_with fail
      go_roundw
      case rel => exact ⟨j + 1, O9, by have := HLT.out; omega, by go_num, HPB9, Lib.hid (by rw [HT.out, List.flatMap_append, List.flatMap_cons, List.flatMap_nil, List.append_nil, ← List.append_assoc, ← HOE.out, ← HO9.out, ← HO8.out, ← HO7.out, ← HO6.out]; simp [encK, List.append_assoc]), Lib.hid (by have := HL9.out; omega)⟩
      case measure => have := HLT.out; simp [intOf]; omega
    · obtain rfl : j = U.length := by omega
      rw [List.take_of_length_le (Nat.le_refl _)] at HOE
      have HL6 := Lib.hid (show O.length ≤ 11872 by have := HOL.out; omega)
      clear hlt hj HOL
      have n36 : wo.cell? ⟨N, 36, none⟩ = some (.slice ha H.length hcp) := cell_of_blk HPO.out.box h36.out
      have hbn := cell_lt n36
      have HCB := Lib.hid (putInt102_any O _ H.length wo (by have := HSM.out.2.2.2.2.2; omega) (by have := HL6.out; omega) HPO.out.byg)
      go_wp2_with fail
      refine HCB.out.mono ?_
      rintro e w12 ⟨⟨v7, rfl, ho7⟩, hb7⟩
      have HPB7 := Lib.hid (HPO.out.put ho7 hb7)
      obtain ⟨va7, vc7, rfl, _⟩ := owns_shape ho7
      clear ho7 hb7
      have HL7 := Lib.hid (show (O ++ encU H.length).length ≤ 11882 from by simp only [List.length_append]; have := HL6.out; have := HSM.out.2.2.2.2.2; have := encU_len H.length (by omega); omega)
      generalize hO7 : O ++ encU H.length = O7 at *
      have HO7 := Lib.hid hO7; clear hO7
      clear n36 hbn HCB
      have n36 : w12.cell? ⟨N, 36, none⟩ = some (.slice ha H.length hcp) := cell_of_blk HPB7.out.box h36.out
      have hbn := cell_lt n36
      have hh2 := HSM.out.2.2.2.2.2
      go_wp2_with fail
      clear n36 hbn
      go_loopw [3, 69] (fun p i wr => ∃ (j : Nat) (Q : List Int), j ≤ H.length ∧ i = .int .i64 j ∧ Hid (PB N w arr wr Q p) ∧ Hid (Q = O7 ++ (H.take j).flatMap encHo) ∧ Hid (Q.length ≤ 11882 + j * 200)) (fun _ i _ => H.length - (intOf i).toNat)
      case atStart => exact ⟨0, O7, Nat.zero_le _, rfl, HPB7, Lib.hid (by simp), Lib.hid (by have := HL7.out; omega)⟩
      case round =>
        obtain ⟨j, Q, hj, rfl, HPQ, HQE, HQL⟩ := hrel
        obtain ⟨wq, rfl⟩ : ∃ wq : World, wq = wr := ⟨_, rfl⟩
        obtain ⟨qa, qc2, rfl, _⟩ := owns_shape HPQ.out.own
        have HMW := Lib.hid (show More w wq from more_of (by rw [← HN.out]; exact HPQ.out.low))
        have hh2 := HSM.out.2.2.2.2.2
        by_cases hlt : j < H.length
        · obtain ⟨b, off, rfl, _, hc⟩ := HHOL.out.atC hC_len hlt
          have e0 := HMW.out.cell (hc 0 (.int .i64 H[j].2.m.f) rfl)
          have e1 := HMW.out.cell (hc 1 (.int .i64 H[j].2.m.t) rfl)
          have e2 := HMW.out.cell (hc 2 (.int .i64 H[j].2.m.n) rfl)
          have e3 := HMW.out.cell (hc 3 (H[j].1) rfl)
          rw [Nat.add_zero] at e0
          clear hc
          have hmem := List.getElem_mem hlt
          have HAT := Lib.hid (HEACH.out _ hmem)
          have hok := HHO.out.ok _ hmem
          have htk := HHO.out.tk _ hmem
          have HAI := Lib.hid (HHI.out _ hmem)
          have HT := Lib.hid (show H.take (j + 1) = H.take j ++ [H[j]] from List.take_succ_eq_append_getElem hlt)
          have HLT := Lib.hid hlt
          clear hmem
          generalize H[j] = x at *
          obtain ⟨xv, ⟨⟨mf, mt, mn⟩, al⟩⟩ := x
          obtain ⟨p1, p1b, p2, p2b, p3, p4, p5, p6⟩ := ho_parts hok
          dsimp only at p1 p1b p2 p2b p3 p4
          have HAR := Lib.hid (arOkb_each (by omega) p6)
          have HTK := Lib.hid htk
          clear htk hok
          obtain ⟨na, hna⟩ : ∃ n : Nat, mf = n := ⟨mf.toNat, by omega⟩
          obtain ⟨nb, hnb⟩ : ∃ n : Nat, mt = n := ⟨mt.toNat, by omega⟩
          obtain ⟨nn, hnn⟩ : ∃ n : Nat, mn = n := ⟨mn.toNat, by omega⟩
          subst hna hnb hnn
          obtain ⟨xa, xc, hxv, _⟩ := HAT.out.row.shape
          dsimp only at hxv e0 e1 e2 e3
          subst hxv
          obtain ⟨an, HAN⟩ : ∃ an, Hid (al.length = an) := ⟨_, Lib.hid rfl⟩
          rw [HAN.out] at e3 p5
          have HXS := Lib.hid (show na ≤ 8 ∧ nb ≤ 8 ∧ nn ≤ 65535 ∧ an ≤ 2 by omega)
          clear p1 p1b p2 p2b p3 p4 p5 p6
          have hbe := cell_lt e0
          have HXB := Lib.hid (alloc_last wq (.cells #[.int .i64 na, .int .i64 nb, .int .i64 nn, .slice xa an xc] 68))
          have HMO := Lib.hid (more_alloc wq (.cells #[.int .i64 na, .int .i64 nb, .int .i64 nn, .slice xa an xc] 68))
          go_upto_region 18 with (fail)
          clear e0 e1 e2 e3 hbe
          generalize wq.alloc (.cells #[.int .i64 na, .int .i64 nb, .int .i64 nn, .slice xa an xc] 68) = w20 at *
          obtain ⟨XB, HXE⟩ : ∃ XB, Hid (XB = wq.heap.size) := ⟨_, Lib.hid rfl⟩
          rw [← HXE.out] at HXB ⊢
          have HP20 := Lib.hid (HPQ.out.more HMO.out)
          have x0 : w20.cell? ⟨XB, 0, none⟩ = some (.int .i64 na) := cell_of_blk HXB.out rfl
          have x1 : w20.cell? ⟨XB, 1, none⟩ = some (.int .i64 nb) := cell_of_blk HXB.out rfl
          have x2 : w20.cell? ⟨XB, 2, none⟩ = some (.int .i64 nn) := cell_of_blk HXB.out rfl
          have hbx := cell_lt x0
          have HK2 := Lib.hid (show ∀ W, More w20 W → (W.cell? ⟨XB, 0, none⟩ = some (.int .i64 na) ∧ W.cell? ⟨XB, 1, none⟩ = some (.int .i64 nb) ∧ W.cell? ⟨XB, 2, none⟩ = some (.int .i64 nn)) from fun W h => ⟨h.cell x0, h.cell x1, h.cell x2⟩)
          have HLL := Lib.hid (more_drew w20)
          have HP21 := Lib.hid (HP20.out.more HLL.out)
          refine wp_region_held_drew (S := fun W => W.cell? ⟨XB, 0, none⟩ = some (.int .i64 na) ∧ W.cell? ⟨XB, 1, none⟩ = some (.int .i64 nb) ∧ W.cell? ⟨XB, 2, none⟩ = some (.int .i64 nn)) (by kernel_rfl) (HK2.out _ HLL.out) (fun hHeld => ?_)
          refine wpAnyH_take (i := 0) (v := ?_) (by simp only [List.getElem?_toArray, List.getElem?_cons_zero]; exact rfl) (by kernel_rfl) (by kernel_rfl) (by kernel_rfl) (by exact fun _ _ _ h => h) (Or.inl ⟨by kernel_rfl, ?_⟩) hHeld ?_
          rotate_left
          · intro w hSw
            (try dsimp only at hSw)
            first | (go_simp; done) | (go_simp; with_reducible rfl)
          (try simp only [Act.put, List.setIfInBounds_toArray, List.set_cons_zero, List.set_cons_succ])
          refine wpAnyH_take (i := 1) (v := ?_) (by simp only [List.getElem?_toArray, List.getElem?_cons_succ, List.getElem?_cons_zero]; exact rfl) (by kernel_rfl) (by kernel_rfl) (by kernel_rfl) (by exact fun _ _ _ h => h) (Or.inl ⟨by kernel_rfl, ?_⟩) hHeld ?_
          rotate_left
          · intro w hSw
            (try dsimp only at hSw)
            first | (go_simp; done) | (go_simp; with_reducible rfl)
          (try simp only [Act.put, List.setIfInBounds_toArray, List.set_cons_zero, List.set_cons_succ])
          refine wpAnyH_take (i := 2) (v := ?_) (by simp only [List.getElem?_toArray, List.getElem?_cons_succ, List.getElem?_cons_zero]; exact rfl) (by kernel_rfl) (by kernel_rfl) (by kernel_rfl) (by exact fun _ _ _ h => h) (Or.inl ⟨by kernel_rfl, ?_⟩) hHeld ?_
          rotate_left
          · intro w hSw
            (try dsimp only at hSw)
            first | (go_simp; done) | (go_simp; with_reducible rfl)
          (try simp only [Act.put, List.setIfInBounds_toArray, List.set_cons_zero, List.set_cons_succ])
          refine wpAnyH_take (i := 3) (v := ?_) (by simp only [List.getElem?_toArray, List.getElem?_cons_succ, List.getElem?_cons_zero]; exact rfl) (by kernel_rfl) (by kernel_rfl) (by kernel_rfl) (by exact fun _ _ _ h => h) (Or.inl ⟨by kernel_rfl, ?_⟩) hHeld ?_
          rotate_left
          · intro w hSw
            (try dsimp only at hSw)
            first | (go_simp; done) | (go_simp; with_reducible rfl)
          (try simp only [Act.put, List.setIfInBounds_toArray, List.set_cons_zero, List.set_cons_succ])
          refine wpAnyH_take (i := 5) (v := ?_) (by simp only [List.getElem?_toArray, List.getElem?_cons_succ, List.getElem?_cons_zero]; exact rfl) (by kernel_rfl) (by kernel_rfl) (by kernel_rfl) (by exact fun _ _ _ h => h) (Or.inl ⟨by kernel_rfl, ?_⟩) hHeld ?_
          rotate_left
          · intro w hSw
            (try dsimp only at hSw)
            first | (go_simp; done) | (go_simp; with_reducible rfl)
          (try simp only [Act.put, List.setIfInBounds_toArray, List.set_cons_zero, List.set_cons_succ])
          refine wpAnyH_take (i := 6) (v := ?_) (by simp only [List.getElem?_toArray, List.getElem?_cons_succ, List.getElem?_cons_zero]; exact rfl) (by kernel_rfl) (by kernel_rfl) (by kernel_rfl) (by exact fun _ _ _ h => h) (Or.inl ⟨by kernel_rfl, ?_⟩) hHeld ?_
          rotate_left
          · intro w hSw
            (try dsimp only at hSw)
            first | (go_simp; done) | (go_simp; with_reducible rfl)
          (try simp only [Act.put, List.setIfInBounds_toArray, List.set_cons_zero, List.set_cons_succ])
          refine wpAnyH_take (i := 7) (v := ?_) (by simp only [List.getElem?_toArray, List.getElem?_cons_succ, List.getElem?_cons_zero]; exact rfl) (by kernel_rfl) (by kernel_rfl) (by kernel_rfl) (by exact fun _ _ _ h => h) (Or.inl ⟨by kernel_rfl, ?_⟩) hHeld ?_
          rotate_left
          · intro w hSw
            (try dsimp only at hSw)
            first | (go_simp; done) | (go_simp; with_reducible rfl)
          (try simp only [Act.put, List.setIfInBounds_toArray, List.set_cons_zero, List.set_cons_succ])
          refine wpAnyH_take (i := 9) (v := ?_) (by simp only [List.getElem?_toArray, List.getElem?_cons_succ, List.getElem?_cons_zero]; exact rfl) (by kernel_rfl) (by kernel_rfl) (by kernel_rfl) (by exact fun _ _ _ h => h) (Or.inl ⟨by kernel_rfl, ?_⟩) hHeld ?_
          rotate_left
          · intro w hSw
            (try dsimp only at hSw)
            first | (go_simp; done) | (go_simp; with_reducible rfl)
          (try simp only [Act.put, List.setIfInBounds_toArray, List.set_cons_zero, List.set_cons_succ])
          refine wpAnyH_take (i := 10) (v := ?_) (by simp only [List.getElem?_toArray, List.getElem?_cons_succ, List.getElem?_cons_zero]; exact rfl) (by kernel_rfl) (by kernel_rfl) (by kernel_rfl) (by exact fun _ _ _ h => h) (Or.inl ⟨by kernel_rfl, ?_⟩) hHeld ?_
          rotate_left
          · intro w hSw
            (try dsimp only at hSw)
            first | (go_simp; done) | (go_simp; with_reducible rfl)
          (try simp only [Act.put, List.setIfInBounds_toArray, List.set_cons_zero, List.set_cons_succ])
          refine wpAnyH_take (i := 11) (v := ?_) (by simp only [List.getElem?_toArray, List.getElem?_cons_succ, List.getElem?_cons_zero]; exact rfl) (by kernel_rfl) (by kernel_rfl) (by kernel_rfl) (by exact fun _ _ _ h => h) (Or.inl ⟨by kernel_rfl, ?_⟩) hHeld ?_
          rotate_left
          · intro w hSw
            (try dsimp only at hSw)
            first | (go_simp; done) | (go_simp; with_reducible rfl)
          (try simp only [Act.put, List.setIfInBounds_toArray, List.set_cons_zero, List.set_cons_succ])
          have HCB := Lib.hid (putInt102_any Q _ na w20.drew (by have := HXS.out; omega) (by have := HQL.out; have := HLT.out; omega) HP21.out.byg)
          refine wpAnyH_ready (rs := [4]) (by kernel_rfl) (by simp) ?_
          refine AllReadyH.cons (by simp only [List.getElem?_toArray, List.getElem?_cons_succ, List.getElem?_cons_zero]; exact rfl) (fun K hK => ?_) AllReadyH.nil
          rw [if_pos (by kernel_rfl)]
          go_simp
          refine HCB.out.mono ?_
          rintro e w21 ⟨⟨v21, rfl, ho21⟩, hb21⟩
          have HLL := Lib.hid (more_trans HLL.out (more_of hb21))
          have HPB21 := Lib.hid (HP21.out.put ho21 hb21)
          obtain ⟨va21, vc21, rfl, _⟩ := owns_shape ho21
          clear ho21 hb21
          have HL21 := Lib.hid (show (Q ++ encU na).length ≤ 11892 + j * 200 from by simp only [List.length_append]; have := HQL.out; have h9 : na ≤ 9223372036854775807 := (by have := HXS.out; omega); have := encU_len na (by omega); omega)
          generalize hO21 : Q ++ encU na = O21 at *
          have HO21 := Lib.hid hO21; clear hO21
          have K21 := HK2.out w21 HLL.out
          try go_wp2_with fail
          refine hK.out _ _ K21 (fun hHeld => ?_)
          clear hK K HCB
          (try simp only [Act.put, List.setIfInBounds_toArray, List.set_cons_zero, List.set_cons_succ])
          have HCB := Lib.hid (putInt102_any O21 _ nb w21 (by have := HXS.out; omega) (by have := HL21.out; have := HLT.out; omega) HPB21.out.byg)
          refine wpAnyH_ready (rs := [8]) (by kernel_rfl) (by simp) ?_
          refine AllReadyH.cons (by simp only [List.getElem?_toArray, List.getElem?_cons_succ, List.getElem?_cons_zero]; exact rfl) (fun K hK => ?_) AllReadyH.nil
          rw [if_pos (by kernel_rfl)]
          go_simp
          refine HCB.out.mono ?_
          rintro e w22 ⟨⟨v22, rfl, ho22⟩, hb22⟩
          have HLL := Lib.hid (more_trans HLL.out (more_of hb22))
          have HPB22 := Lib.hid (HPB21.out.put ho22 hb22)
          obtain ⟨va22, vc22, rfl, _⟩ := owns_shape ho22
          clear ho22 hb22
          have HL22 := Lib.hid (show (O21 ++ encU nb).length ≤ 11902 + j * 200 from by simp only [List.length_append]; have := HL21.out; have h9 : nb ≤ 9223372036854775807 := (by have := HXS.out; omega); have := encU_len nb (by omega); omega)
          generalize hO22 : O21 ++ encU nb = O22 at *
          have HO22 := Lib.hid hO22; clear hO22
          have K22 := HK2.out w22 HLL.out
          try go_wp2_with fail
          refine hK.out _ _ K22 (fun hHeld => ?_)
          clear hK K HCB
          (try simp only [Act.put, List.setIfInBounds_toArray, List.set_cons_zero, List.set_cons_succ])
          have HCB := Lib.hid (putInt102_any O22 _ nn w22 (by have := HXS.out; omega) (by have := HL22.out; have := HLT.out; omega) HPB22.out.byg)
          refine wpAnyH_ready (rs := [12]) (by kernel_rfl) (by simp) ?_
          refine AllReadyH.cons (by simp only [List.getElem?_toArray, List.getElem?_cons_succ, List.getElem?_cons_zero]; exact rfl) (fun K hK => ?_) AllReadyH.nil
          rw [if_pos (by kernel_rfl)]
          go_simp
          refine HCB.out.mono ?_
          rintro e w23 ⟨⟨v23, rfl, ho23⟩, hb23⟩
          have HLL := Lib.hid (more_trans HLL.out (more_of hb23))
          have HPB23 := Lib.hid (HPB22.out.put ho23 hb23)
          obtain ⟨va23, vc23, rfl, _⟩ := owns_shape ho23
          clear ho23 hb23
          have HL23 := Lib.hid (show (O22 ++ encU nn).length ≤ 11912 + j * 200 from by simp only [List.length_append]; have := HL22.out; have h9 : nn ≤ 9223372036854775807 := (by have := HXS.out; omega); have := encU_len nn (by omega); omega)
          generalize hO23 : O22 ++ encU nn = O23 at *
          have HO23 := Lib.hid hO23; clear hO23
          have K23 := HK2.out w23 HLL.out
          try go_wp2_with fail
          refine hK.out _ _ K23 (fun hHeld => ?_)
          clear hK K HCB
          (try simp only [Act.put, List.setIfInBounds_toArray, List.set_cons_zero, List.set_cons_succ])
          refine wpAnyH_take (i := 13) (v := ?_) (by simp only [List.getElem?_toArray, List.getElem?_cons_succ, List.getElem?_cons_zero]; exact rfl) (by kernel_rfl) (by kernel_rfl) (by kernel_rfl) (by exact fun _ _ _ h => h) (Or.inl ⟨by kernel_rfl, ?_⟩) hHeld ?_
          rotate_left
          · intro w hSw
            (try dsimp only at hSw)
            first | (go_simp; done) | (go_simp; with_reducible rfl)
          (try simp only [Act.put, List.setIfInBounds_toArray, List.set_cons_zero, List.set_cons_succ])
          refine wpAnyH_done (by kernel_rfl) ?_ _
          clear x0 x1 x2 hbx
          have HX23 := Lib.hid ((HLL.out.block (blk_lt HXB.out)).trans HXB.out)
          have x3 : w23.cell? ⟨XB, 3, none⟩ = some (.slice xa an xc) := cell_of_blk HX23.out rfl
          have hbx := cell_lt x3
          have HCB := Lib.hid (putInt102_any O23 _ an w23 (by have := HXS.out; omega) (by have := HL23.out; have := HLT.out; omega) HPB23.out.byg)
          go_wp2_with fail
          refine HCB.out.mono ?_
          rintro e w24 ⟨⟨v24, rfl, ho24⟩, hb24⟩
          have HX24 := Lib.hid (((more_of hb24).block (blk_lt HX23.out)).trans HX23.out)
          have HPB24 := Lib.hid (HPB23.out.put ho24 hb24)
          obtain ⟨va24, vc24, rfl, _⟩ := owns_shape ho24
          clear ho24 hb24 x3 hbx HCB
          have HL24 := Lib.hid (show (O23 ++ encU an).length ≤ 11922 + j * 200 from by simp only [List.length_append]; have := HL23.out; have := HXS.out; have := encU_len an (by omega); omega)
          generalize hO24 : O23 ++ encU an = O24 at *
          have HO24 := Lib.hid hO24; clear hO24
          have x3 : w24.cell? ⟨XB, 3, none⟩ = some (.slice xa an xc) := cell_of_blk HX24.out rfl
          have hbx := cell_lt x3
          have han := HXS.out.2.2.2
          go_wp2_with fail
          clear x3 hbx
          go_loopw [3, 94] (fun p i wr => ∃ (m : Nat) (G : List Int), m ≤ an ∧ i = .int .i64 m ∧ Hid (PB N w arr wr G p) ∧ Hid (G = O24 ++ (al.take m).flatMap encAr) ∧ Hid (G.length ≤ 11922 + j * 200 + m * 70)) (fun _ i _ => an - (intOf i).toNat)
          case atStart => exact ⟨0, O24, Nat.zero_le _, rfl, HPB24, Lib.hid (by simp), Lib.hid (by have := HL24.out; omega)⟩
          case round =>
            obtain ⟨m, G, hm, rfl, HPG, HGE, HGL⟩ := hrel
            obtain ⟨wg, rfl⟩ : ∃ wg : World, wg = wr := ⟨_, rfl⟩
            obtain ⟨ga3, gc3, rfl, _⟩ := owns_shape HPG.out.own
            have HMG := Lib.hid (show More w wg from more_of (by rw [← HN.out]; exact HPG.out.low))
            have han := HXS.out.2.2.2
            by_cases hmt : m < an
            · have hml : m < al.length := by rw [HAN.out]; exact hmt
              obtain ⟨b2, off2, hxx, _, hc⟩ := HAT.out.row.atC aC_len hml
              subst hxx
              have e0 := HMG.out.cell (hc 0 (.int .i64 al[m].2.tk) rfl)
              have e1 := HMG.out.cell (hc 1 (.int .i64 al[m].2.hd) rfl)
              have e2 := HMG.out.cell (hc 2 (al[m].1) rfl)
              rw [Nat.add_zero] at e0
              clear hc
              have hmem := List.getElem_mem hml
              have HYA := Lib.hid (HAT.out.arg _ hmem)
              have hr := HAR.out _ hmem
              have htk := HTK.out _ hmem
              have HYI := Lib.hid (HAI.out _ hmem)
              have HT2 := Lib.hid (show al.take (m + 1) = al.take m ++ [al[m]] from List.take_succ_eq_append_getElem hml)
              have HMT := Lib.hid hmt
              clear hmem
              generalize al[m] = y at *
              clear hml
              obtain ⟨yv, ⟨tk, hd, yl⟩⟩ := y
              dsimp only at hr htk e0 e1 e2
              have HS200 := HSM.out.1
              obtain ⟨nt, hnt⟩ : ∃ n : Nat, tk = n := ⟨tk.toNat, by omega⟩
              obtain ⟨nh, hnh⟩ : ∃ n : Nat, hd = n := ⟨hd.toNat, by omega⟩
              subst hnt hnh
              obtain ⟨ya, yc, hyv, _⟩ := HYA.out.1.shape
              dsimp only at hyv
              subst hyv
              obtain ⟨yn, HYN⟩ : ∃ yn, Hid (yl.length = yn) := ⟨_, Lib.hid rfl⟩
              rw [HYN.out] at e2 hr
              have HYS := Lib.hid (show nt ≤ 200 ∧ nh ≤ 8 ∧ yn ≤ 4 by omega)
              clear hr htk HS200
              have hbe := cell_lt e0
              have HYB := Lib.hid (alloc_last wg (.cells #[.int .i64 nt, .int .i64 nh, .slice ya yn yc] 72))
              have HMY := Lib.hid (more_alloc wg (.cells #[.int .i64 nt, .int .i64 nh, .slice ya yn yc] 72))
              go_upto_region 23 with (fail)
              clear e0 e1 e2 hbe
              generalize wg.alloc (.cells #[.int .i64 nt, .int .i64 nh, .slice ya yn yc] 72) = w30 at *
              obtain ⟨YB, HYE⟩ : ∃ YB, Hid (YB = wg.heap.size) := ⟨_, Lib.hid rfl⟩
              rw [← HYE.out] at HYB ⊢
              have HP30 := Lib.hid (HPG.out.more HMY.out)
              have x0 : w30.cell? ⟨YB, 0, none⟩ = some (.int .i64 nt) := cell_of_blk HYB.out rfl
              have x1 : w30.cell? ⟨YB, 1, none⟩ = some (.int .i64 nh) := cell_of_blk HYB.out rfl
              have x2 : w30.cell? ⟨YB, 2, none⟩ = some (.slice ya yn yc) := cell_of_blk HYB.out rfl
              have hbx := cell_lt x0
              have HK2 := Lib.hid (show ∀ W, More w30 W → (W.cell? ⟨YB, 0, none⟩ = some (.int .i64 nt) ∧ W.cell? ⟨YB, 1, none⟩ = some (.int .i64 nh) ∧ W.cell? ⟨YB, 2, none⟩ = some (.slice ya yn yc)) from fun W h => ⟨h.cell x0, h.cell x1, h.cell x2⟩)
              have HLL := Lib.hid (more_drew w30)
              have HP31 := Lib.hid (HP30.out.more HLL.out)
              refine wp_region_held_drew (S := fun W => W.cell? ⟨YB, 0, none⟩ = some (.int .i64 nt) ∧ W.cell? ⟨YB, 1, none⟩ = some (.int .i64 nh) ∧ W.cell? ⟨YB, 2, none⟩ = some (.slice ya yn yc)) (by kernel_rfl) (HK2.out _ HLL.out) (fun hHeld => ?_)
              refine wpAnyH_take (i := 0) (v := ?_) (by simp only [List.getElem?_toArray, List.getElem?_cons_zero]; exact rfl) (by kernel_rfl) (by kernel_rfl) (by kernel_rfl) (by exact fun _ _ _ h => h) (Or.inl ⟨by kernel_rfl, ?_⟩) hHeld ?_
              rotate_left
              · intro w hSw
                (try dsimp only at hSw)
                first | (go_simp; done) | (go_simp; with_reducible rfl)
              (try simp only [Act.put, List.setIfInBounds_toArray, List.set_cons_zero, List.set_cons_succ])
              refine wpAnyH_take (i := 1) (v := ?_) (by simp only [List.getElem?_toArray, List.getElem?_cons_succ, List.getElem?_cons_zero]; exact rfl) (by kernel_rfl) (by kernel_rfl) (by kernel_rfl) (by exact fun _ _ _ h => h) (Or.inl ⟨by kernel_rfl, ?_⟩) hHeld ?_
              rotate_left
              · intro w hSw
                (try dsimp only at hSw)
                first | (go_simp; done) | (go_simp; with_reducible rfl)
              (try simp only [Act.put, List.setIfInBounds_toArray, List.set_cons_zero, List.set_cons_succ])
              refine wpAnyH_take (i := 2) (v := ?_) (by simp only [List.getElem?_toArray, List.getElem?_cons_succ, List.getElem?_cons_zero]; exact rfl) (by kernel_rfl) (by kernel_rfl) (by kernel_rfl) (by exact fun _ _ _ h => h) (Or.inl ⟨by kernel_rfl, ?_⟩) hHeld ?_
              rotate_left
              · intro w hSw
                (try dsimp only at hSw)
                first | (go_simp; done) | (go_simp; with_reducible rfl)
              (try simp only [Act.put, List.setIfInBounds_toArray, List.set_cons_zero, List.set_cons_succ])
              refine wpAnyH_take (i := 4) (v := ?_) (by simp only [List.getElem?_toArray, List.getElem?_cons_succ, List.getElem?_cons_zero]; exact rfl) (by kernel_rfl) (by kernel_rfl) (by kernel_rfl) (by exact fun _ _ _ h => h) (Or.inl ⟨by kernel_rfl, ?_⟩) hHeld ?_
              rotate_left
              · intro w hSw
                (try dsimp only at hSw)
                first | (go_simp; done) | (go_simp; with_reducible rfl)
              (try simp only [Act.put, List.setIfInBounds_toArray, List.set_cons_zero, List.set_cons_succ])
              refine wpAnyH_take (i := 5) (v := ?_) (by simp only [List.getElem?_toArray, List.getElem?_cons_succ, List.getElem?_cons_zero]; exact rfl) (by kernel_rfl) (by kernel_rfl) (by kernel_rfl) (by exact fun _ _ _ h => h) (Or.inl ⟨by kernel_rfl, ?_⟩) hHeld ?_
              rotate_left
              · intro w hSw
                (try dsimp only at hSw)
                first | (go_simp; done) | (go_simp; with_reducible rfl)
              (try simp only [Act.put, List.setIfInBounds_toArray, List.set_cons_zero, List.set_cons_succ])
              refine wpAnyH_take (i := 7) (v := ?_) (by simp only [List.getElem?_toArray, List.getElem?_cons_succ, List.getElem?_cons_zero]; exact rfl) (by kernel_rfl) (by kernel_rfl) (by kernel_rfl) (by exact fun _ _ _ h => h) (Or.inl ⟨by kernel_rfl, ?_⟩) hHeld ?_
              rotate_left
              · intro w hSw
                (try dsimp only at hSw)
                first | (go_simp; done) | (go_simp; with_reducible rfl)
              (try simp only [Act.put, List.setIfInBounds_toArray, List.set_cons_zero, List.set_cons_succ])
              refine wpAnyH_take (i := 8) (v := ?_) (by simp only [List.getElem?_toArray, List.getElem?_cons_succ, List.getElem?_cons_zero]; exact rfl) (by kernel_rfl) (by kernel_rfl) (by kernel_rfl) (by exact fun _ _ _ h => h) (Or.inl ⟨by kernel_rfl, ?_⟩) hHeld ?_
              rotate_left
              · intro w hSw
                (try dsimp only at hSw)
                first | (go_simp; done) | (go_simp; with_reducible rfl)
              (try simp only [Act.put, List.setIfInBounds_toArray, List.set_cons_zero, List.set_cons_succ])
              refine wpAnyH_take (i := 9) (v := ?_) (by simp only [List.getElem?_toArray, List.getElem?_cons_succ, List.getElem?_cons_zero]; exact rfl) (by kernel_rfl) (by kernel_rfl) (by kernel_rfl) (by exact fun _ _ _ h => h) (Or.inl ⟨by kernel_rfl, ?_⟩) hHeld ?_
              rotate_left
              · intro w hSw
                (try dsimp only at hSw)
                first | (go_simp; done) | (go_simp; with_reducible rfl)
              (try simp only [Act.put, List.setIfInBounds_toArray, List.set_cons_zero, List.set_cons_succ])
              have HCB := Lib.hid (putInt102_any G _ nt w30.drew (by have := HYS.out; omega) (by have := HGL.out; have := HLT.out; have := HMT.out; have := HXS.out; omega) HP31.out.byg)
              refine wpAnyH_ready (rs := [3]) (by kernel_rfl) (by simp) ?_
              refine AllReadyH.cons (by simp only [List.getElem?_toArray, List.getElem?_cons_succ, List.getElem?_cons_zero]; exact rfl) (fun K hK => ?_) AllReadyH.nil
              rw [if_pos (by kernel_rfl)]
              go_simp
              refine HCB.out.mono ?_
              rintro e w31 ⟨⟨v31, rfl, ho31⟩, hb31⟩
              have HLL := Lib.hid (more_trans HLL.out (more_of hb31))
              have HPB31 := Lib.hid (HP31.out.put ho31 hb31)
              obtain ⟨va31, vc31, rfl, _⟩ := owns_shape ho31
              clear ho31 hb31
              have HL31 := Lib.hid (show (G ++ encU nt).length ≤ 11932 + j * 200 + m * 70 from by simp only [List.length_append]; have := HGL.out; have h9 : nt ≤ 9223372036854775807 := (by have := HYS.out; omega); have := encU_len nt (by omega); omega)
              generalize hO31 : G ++ encU nt = O31 at *
              have HO31 := Lib.hid hO31; clear hO31
              have K31 := HK2.out w31 HLL.out
              try go_wp2_with fail
              refine hK.out _ _ K31 (fun hHeld => ?_)
              clear hK K HCB
              (try simp only [Act.put, List.setIfInBounds_toArray, List.set_cons_zero, List.set_cons_succ])
              have HCB := Lib.hid (putInt102_any O31 _ nh w31 (by have := HYS.out; omega) (by have := HL31.out; have := HLT.out; have := HMT.out; have := HXS.out; omega) HPB31.out.byg)
              refine wpAnyH_ready (rs := [6]) (by kernel_rfl) (by simp) ?_
              refine AllReadyH.cons (by simp only [List.getElem?_toArray, List.getElem?_cons_succ, List.getElem?_cons_zero]; exact rfl) (fun K hK => ?_) AllReadyH.nil
              rw [if_pos (by kernel_rfl)]
              go_simp
              refine HCB.out.mono ?_
              rintro e w32 ⟨⟨v32, rfl, ho32⟩, hb32⟩
              have HLL := Lib.hid (more_trans HLL.out (more_of hb32))
              have HPB32 := Lib.hid (HPB31.out.put ho32 hb32)
              obtain ⟨va32, vc32, rfl, _⟩ := owns_shape ho32
              clear ho32 hb32
              have HL32 := Lib.hid (show (O31 ++ encU nh).length ≤ 11942 + j * 200 + m * 70 from by simp only [List.length_append]; have := HL31.out; have h9 : nh ≤ 9223372036854775807 := (by have := HYS.out; omega); have := encU_len nh (by omega); omega)
              generalize hO32 : O31 ++ encU nh = O32 at *
              have HO32 := Lib.hid hO32; clear hO32
              have K32 := HK2.out w32 HLL.out
              try go_wp2_with fail
              refine hK.out _ _ K32 (fun hHeld => ?_)
              clear hK K HCB
              (try simp only [Act.put, List.setIfInBounds_toArray, List.set_cons_zero, List.set_cons_succ])
              have HCB := Lib.hid (putInt102_any O32 _ yn w32 (by have := HYS.out; omega) (by have := HL32.out; have := HLT.out; have := HMT.out; have := HXS.out; omega) HPB32.out.byg)
              refine wpAnyH_ready (rs := [10]) (by kernel_rfl) (by simp) ?_
              refine AllReadyH.cons (by simp only [List.getElem?_toArray, List.getElem?_cons_succ, List.getElem?_cons_zero]; exact rfl) (fun K hK => ?_) AllReadyH.nil
              rw [if_pos (by kernel_rfl)]
              go_simp
              refine HCB.out.mono ?_
              rintro e w33 ⟨⟨v33, rfl, ho33⟩, hb33⟩
              have HLL := Lib.hid (more_trans HLL.out (more_of hb33))
              have HPB33 := Lib.hid (HPB32.out.put ho33 hb33)
              obtain ⟨va33, vc33, rfl, _⟩ := owns_shape ho33
              clear ho33 hb33
              have HL33 := Lib.hid (show (O32 ++ encU yn).length ≤ 11952 + j * 200 + m * 70 from by simp only [List.length_append]; have := HL32.out; have h9 : yn ≤ 9223372036854775807 := (by have := HYS.out; omega); have := encU_len yn (by omega); omega)
              generalize hO33 : O32 ++ encU yn = O33 at *
              have HO33 := Lib.hid hO33; clear hO33
              have K33 := HK2.out w33 HLL.out
              try go_wp2_with fail
              refine hK.out _ _ K33 (fun hHeld => ?_)
              clear hK K HCB
              (try simp only [Act.put, List.setIfInBounds_toArray, List.set_cons_zero, List.set_cons_succ])
              refine wpAnyH_take (i := 11) (v := ?_) (by simp only [List.getElem?_toArray, List.getElem?_cons_succ, List.getElem?_cons_zero]; exact rfl) (by kernel_rfl) (by kernel_rfl) (by kernel_rfl) (by exact fun _ _ _ h => h) (Or.inl ⟨by kernel_rfl, ?_⟩) hHeld ?_
              rotate_left
              · intro w hSw
                (try dsimp only at hSw)
                first | (go_simp; done) | (go_simp; with_reducible rfl)
              (try simp only [Act.put, List.setIfInBounds_toArray, List.set_cons_zero, List.set_cons_succ])
              refine wpAnyH_done (by kernel_rfl) ?_ _
              clear x0 x1 x2 hbx
              have HY33 := Lib.hid ((HLL.out.block (blk_lt HYB.out)).trans HYB.out)
              have x2 : w33.cell? ⟨YB, 2, none⟩ = some (.slice ya yn yc) := cell_of_blk HY33.out rfl
              have hbx := cell_lt x2
              have hyn := HYS.out.2.2
              go_wp2_with fail
              clear x2 hbx
              go_loopw [3, 112] (fun p i wr => ∃ (t : Nat) (D : List Int), t ≤ yn ∧ i = .int .i64 t ∧ Hid (PB N w arr wr D p) ∧ Hid (D = O33 ++ (yl.take t).flatMap fun v => encU (zz v)) ∧ Hid (D.length ≤ 11952 + j * 200 + m * 70 + t * 10)) (fun _ i _ => yn - (intOf i).toNat)
              case atStart => exact ⟨0, O33, Nat.zero_le _, rfl, HPB33, Lib.hid (by simp), Lib.hid (by have := HL33.out; omega)⟩
              case round =>
                obtain ⟨t, D, ht, rfl, HPD, HDE, HDL⟩ := hrel
                obtain ⟨wd, rfl⟩ : ∃ wd : World, wd = wr := ⟨_, rfl⟩
                obtain ⟨da, dc, rfl, _⟩ := owns_shape HPD.out.own
                have HMD := Lib.hid (show More w wd from more_of (by rw [← HN.out]; exact HPD.out.low))
                have hyn := HYS.out.2.2
                by_cases htt : t < yn
                · have htl : t < yl.length := by rw [HYN.out]; exact htt
                  obtain ⟨b3, off3, hyy, _, hc⟩ := HYA.out.1.atC nC_len htl
                  subst hyy
                  have e0 := HMD.out.cell (hc 0 (.int .i64 yl[t]) rfl)
                  rw [Nat.add_zero, Nat.mul_one] at e0
                  clear hc
                  have hi9 := HYI.out _ (List.getElem_mem htl)
                  unfold In64 at hi9
                  have HT3 := Lib.hid (show yl.take (t + 1) = yl.take t ++ [yl[t]] from List.take_succ_eq_append_getElem htl)
                  have HTT := Lib.hid htt
                  generalize yl[t] = g at *
                  clear htl
                  have hbe := cell_lt e0
                  have HCB := Lib.hid (putInt103_any D _ g wd hi9.1 hi9.2 (by have := HDL.out; have := HTT.out; have := HYS.out; have := HLT.out; have := HMT.out; have := HXS.out; omega) HPD.out.byg)
                  have HZ := Lib.hid (zz_lt hi9.1 hi9.2)
                  clear hi9
                  go_wp2_with fail
                  refine HCB.out.mono ?_
                  rintro e w40 ⟨⟨v40, rfl, ho40⟩, hb40⟩
                  have HPB40 := Lib.hid (HPD.out.put ho40 hb40)
                  obtain ⟨va40, vc40, rfl, _⟩ := owns_shape ho40
                  clear ho40 hb40 e0 hbe HCB
                  have HL40 := Lib.hid (show (D ++ encU (zz g)).length ≤ 11952 + j * 200 + m * 70 + (t + 1) * 10 from by simp only [List.length_append]; have := HDL.out; have := encU_len (zz g) HZ.out; omega)
                  generalize hO40 : D ++ encU (zz g) = O40 at *
                  have HO40 := Lib.hid hO40; clear hO40
                  have htt9 := HTT.out
                  go_wp2_with fail
                  go_roundw
                  case rel => exact ⟨t + 1, O40, by have := HTT.out; omega, by go_num, HPB40, Lib.hid (by rw [HT3.out, List.flatMap_append, List.flatMap_cons, List.flatMap_nil, List.append_nil, ← List.append_assoc, ← HDE.out, HO40.out]), HL40⟩
                  case measure => have := HTT.out; simp [intOf]; omega
                · obtain rfl : t = yn := by omega
                  rw [List.take_of_length_le (by rw [HYN.out]; exact Nat.le_refl _)] at HDE
                  have HDL2 := Lib.hid (show D.length ≤ 11922 + j * 200 + (m + 1) * 70 by have := HDL.out; have := HYS.out; omega)
                  clear htt ht HDL
                  have hmt9 := HMT.out
                  go_wp2_with fail
                  go_roundw
                  case rel => exact ⟨m + 1, D, by have := HMT.out; omega, by go_num, HPD, Lib.hid (by rw [HT2.out, List.flatMap_append, List.flatMap_cons, List.flatMap_nil, List.append_nil, ← List.append_assoc, ← HGE.out, HDE.out, ← HO33.out, ← HO32.out, ← HO31.out]; simp [encAr, HYN.out, List.append_assoc]), HDL2⟩
                  case measure => have := HMT.out; simp [intOf]; omega
            · obtain rfl : m = an := by omega
              rw [List.take_of_length_le (by rw [HAN.out]; exact Nat.le_refl _)] at HGE
              have HGL2 := Lib.hid (show G.length ≤ 11882 + (j + 1) * 200 by have := HGL.out; have := HXS.out; omega)
              clear hmt hm HGL
              have hlt9 := HLT.out
              go_wp2_with fail
              go_roundw
              case rel => exact ⟨j + 1, G, by have := HLT.out; omega, by go_num, HPG, Lib.hid (by rw [HT.out, List.flatMap_append, List.flatMap_cons, List.flatMap_nil, List.append_nil, ← List.append_assoc, ← HQE.out, HGE.out, ← HO24.out, ← HO23.out, ← HO22.out, ← HO21.out]; simp [encHo, HAN.out, List.append_assoc]), HGL2⟩
              case measure => have := HLT.out; simp [intOf]; omega
        · obtain rfl : j = H.length := by omega
          rw [List.take_of_length_le (Nat.le_refl _)] at HQE
          have HL30 := Lib.hid (show Q.length ≤ 12282 by have := HQL.out; have := HSM.out.2.2.2.2.2; omega)
          clear hlt hj HQL
          have n37 : wq.cell? ⟨N, 37, none⟩ = some (.int .i64 wn) := cell_of_blk HPQ.out.box h37.out
          have n38 : wq.cell? ⟨N, 38, none⟩ = some (.int .i64 sn) := cell_of_blk HPQ.out.box h38.out
          have hbn := cell_lt n37
          go_upto_region 31 with (fail)
          have HK2 := Lib.hid (show ∀ W, More wq W → (W.cell? ⟨N, 37, none⟩ = some (.int .i64 wn) ∧ W.cell? ⟨N, 38, none⟩ = some (.int .i64 sn)) from fun W h => ⟨h.cell n37, h.cell n38⟩)
          have HLL := Lib.hid (more_drew wq)
          have HP12 := Lib.hid (HPQ.out.more HLL.out)
          have HXS := Lib.hid (show wn ≤ 2 ∧ sn ≤ 200 from ⟨HSM.out.2.1, HSM.out.2.2.1⟩)
          have HLT := HXS
          refine wp_region_held_drew (S := fun W => W.cell? ⟨N, 37, none⟩ = some (.int .i64 wn) ∧ W.cell? ⟨N, 38, none⟩ = some (.int .i64 sn)) (by kernel_rfl) (HK2.out _ HLL.out) (fun hHeld => ?_)
          refine wpAnyH_take (i := 0) (v := ?_) (by simp only [List.getElem?_toArray, List.getElem?_cons_zero]; exact rfl) (by kernel_rfl) (by kernel_rfl) (by kernel_rfl) (by exact fun _ _ _ h => h) (Or.inl ⟨by kernel_rfl, ?_⟩) hHeld ?_
          rotate_left
          · intro w hSw
            (try dsimp only at hSw)
            first | (go_simp; done) | (go_simp; with_reducible rfl)
          (try simp only [Act.put, List.setIfInBounds_toArray, List.set_cons_zero, List.set_cons_succ])
          refine wpAnyH_take (i := 1) (v := ?_) (by simp only [List.getElem?_toArray, List.getElem?_cons_succ, List.getElem?_cons_zero]; exact rfl) (by kernel_rfl) (by kernel_rfl) (by kernel_rfl) (by exact fun _ _ _ h => h) (Or.inl ⟨by kernel_rfl, ?_⟩) hHeld ?_
          rotate_left
          · intro w hSw
            (try dsimp only at hSw)
            first | (go_simp; done) | (go_simp; with_reducible rfl)
          (try simp only [Act.put, List.setIfInBounds_toArray, List.set_cons_zero, List.set_cons_succ])
          refine wpAnyH_take (i := 2) (v := ?_) (by simp only [List.getElem?_toArray, List.getElem?_cons_succ, List.getElem?_cons_zero]; exact rfl) (by kernel_rfl) (by kernel_rfl) (by kernel_rfl) (by exact fun _ _ _ h => h) (Or.inl ⟨by kernel_rfl, ?_⟩) hHeld ?_
          rotate_left
          · intro w hSw
            (try dsimp only at hSw)
            first | (go_simp; done) | (go_simp; with_reducible rfl)
          (try simp only [Act.put, List.setIfInBounds_toArray, List.set_cons_zero, List.set_cons_succ])
          refine wpAnyH_take (i := 4) (v := ?_) (by simp only [List.getElem?_toArray, List.getElem?_cons_succ, List.getElem?_cons_zero]; exact rfl) (by kernel_rfl) (by kernel_rfl) (by kernel_rfl) (by exact fun _ _ _ h => h) (Or.inl ⟨by kernel_rfl, ?_⟩) hHeld ?_
          rotate_left
          · intro w hSw
            (try dsimp only at hSw)
            first | (go_simp; done) | (go_simp; with_reducible rfl)
          (try simp only [Act.put, List.setIfInBounds_toArray, List.set_cons_zero, List.set_cons_succ])
          refine wpAnyH_take (i := 5) (v := ?_) (by simp only [List.getElem?_toArray, List.getElem?_cons_succ, List.getElem?_cons_zero]; exact rfl) (by kernel_rfl) (by kernel_rfl) (by kernel_rfl) (by exact fun _ _ _ h => h) (Or.inl ⟨by kernel_rfl, ?_⟩) hHeld ?_
          rotate_left
          · intro w hSw
            (try dsimp only at hSw)
            first | (go_simp; done) | (go_simp; with_reducible rfl)
          (try simp only [Act.put, List.setIfInBounds_toArray, List.set_cons_zero, List.set_cons_succ])
          have HCB := Lib.hid (putInt102_any Q _ wn wq.drew (by have := HXS.out; omega) (by have := HL30.out; have := HLT.out; omega) HP12.out.byg)
          refine wpAnyH_ready (rs := [3]) (by kernel_rfl) (by simp) ?_
          refine AllReadyH.cons (by simp only [List.getElem?_toArray, List.getElem?_cons_succ, List.getElem?_cons_zero]; exact rfl) (fun K hK => ?_) AllReadyH.nil
          rw [if_pos (by kernel_rfl)]
          go_simp
          refine HCB.out.mono ?_
          rintro e w13 ⟨⟨v8, rfl, ho8⟩, hb8⟩
          have HLL := Lib.hid (more_trans HLL.out (more_of hb8))
          have HPB8 := Lib.hid (HP12.out.put ho8 hb8)
          obtain ⟨va8, vc8, rfl, _⟩ := owns_shape ho8
          clear ho8 hb8
          have HL8 := Lib.hid (show (Q ++ encU wn).length ≤ 12292 from by simp only [List.length_append]; have := HL30.out; have h9 : wn ≤ 9223372036854775807 := (by have := HXS.out; omega); have := encU_len wn (by omega); omega)
          generalize hO8 : Q ++ encU wn = O8 at *
          have HO8 := Lib.hid hO8; clear hO8
          have K8 := HK2.out w13 HLL.out
          try go_wp2_with fail
          refine hK.out _ _ K8 (fun hHeld => ?_)
          clear hK K HCB
          (try simp only [Act.put, List.setIfInBounds_toArray, List.set_cons_zero, List.set_cons_succ])
          have HCB := Lib.hid (putInt102_any O8 _ sn w13 (by have := HXS.out; omega) (by have := HL8.out; have := HLT.out; omega) HPB8.out.byg)
          refine wpAnyH_ready (rs := [6]) (by kernel_rfl) (by simp) ?_
          refine AllReadyH.cons (by simp only [List.getElem?_toArray, List.getElem?_cons_succ, List.getElem?_cons_zero]; exact rfl) (fun K hK => ?_) AllReadyH.nil
          rw [if_pos (by kernel_rfl)]
          go_simp
          refine HCB.out.mono ?_
          rintro e w14 ⟨⟨v9, rfl, ho9⟩, hb9⟩
          have HLL := Lib.hid (more_trans HLL.out (more_of hb9))
          have HPB9 := Lib.hid (HPB8.out.put ho9 hb9)
          obtain ⟨va9, vc9, rfl, _⟩ := owns_shape ho9
          clear ho9 hb9
          have HL9 := Lib.hid (show (O8 ++ encU sn).length ≤ 12302 from by simp only [List.length_append]; have := HL8.out; have h9 : sn ≤ 9223372036854775807 := (by have := HXS.out; omega); have := encU_len sn (by omega); omega)
          generalize hO9 : O8 ++ encU sn = O9 at *
          have HO9 := Lib.hid hO9; clear hO9
          have K9 := HK2.out w14 HLL.out
          try go_wp2_with fail
          refine hK.out _ _ K9 (fun hHeld => ?_)
          clear hK K HCB
          (try simp only [Act.put, List.setIfInBounds_toArray, List.set_cons_zero, List.set_cons_succ])
          refine wpAnyH_take (i := 7) (v := ?_) (by simp only [List.getElem?_toArray, List.getElem?_cons_succ, List.getElem?_cons_zero]; exact rfl) (by kernel_rfl) (by kernel_rfl) (by kernel_rfl) (by exact fun _ _ _ h => h) (Or.inl ⟨by kernel_rfl, ?_⟩) hHeld ?_
          rotate_left
          · intro w hSw
            (try dsimp only at hSw)
            first | (go_simp; done) | (go_simp; with_reducible rfl)
          (try simp only [Act.put, List.setIfInBounds_toArray, List.set_cons_zero, List.set_cons_succ])
          refine wpAnyH_done (by kernel_rfl) ?_ _
          go_wp2_with fail
          go_ret
          have hfin : O9 = R := by
            rw [HR.out, ← HO9.out, ← HO8.out, HQE.out, ← HO7.out, HOE.out, ← HO5.out, ← HO4.out, ← HO3.out, ← HO2.out, ← HO1.out]
            simp [encCt, encCs, List.append_assoc]
          subst hfin
          exact ⟨⟨_, rfl, owns_base HPB9.out.own (by omega)⟩, HPB9.out.low⟩
end Go.Proofs.YtemeppfikpafbaaGreatDoor

