/- rootcauseref09.Bytes (47). -/
import Derived.Test.YtekhoanjpnjaeaaRByt
namespace Go.Proofs.Ytekhoanjpnjaeaa
open Go.RowKit

theorem keep2 {w' : World} {k : Nat} {u v : Value} {ty : TypeId} {P : Prop} (h : w'.heap[k]? = some (.cells #[u, v] ty)) (hp : P) :
    w'.cell? ⟨k, 0, none⟩ = some u ∧ P := ⟨by simp [World.cell?, h], hp⟩
set_option maxRecDepth 100000 in
set_option maxHeartbeats 1000000 in
theorem rbytes_any (S : Nat → Prop) (l : List (Int × Int)) (v : Value) (w : World) (hl : l.length < 1000000) (hasc : Asc l) (hwf : WfT l) (h : Row S w 2 l.length v (flat2 l)) :
    Calls Try.prog 47 #[v] w fun e w' => Below w.heap.size w w' ∧ ∃ v', e = .returned v' ∧ w'.ownsRow w.heap.size 5 1 v' (encT l).length (bV (encT l)) := by
  obtain ⟨i0, hi0, hz0, hz1, hz2⟩ := info_parts Try.info5
  obtain ⟨a, cap, rfl, hcap⟩ := h.shape
  have HLEN := Lib.hid (encL_len l none hwf hasc (fun q h => by cases h))
  have HR := Lib.hid h; clear h
  have HA := Lib.hid hasc; clear hasc
  have HW := Lib.hid hwf; clear hwf
  have hcv : IntKind.u64.wrap (l.length : Int) = (l.length : Int) := by rw [IntKind.wrap_u64]; omega
  have HE := Lib.hid (encU_len l.length (by omega))
  go_enter Try.func47, Try.ntmps47
  go_wp2_with fail
  refine (rputn_any l.length w (by omega)).mono ?_
  rintro e w3 ⟨hb3, v3, rfl, ho3⟩
  clear hcv
  have HB3 := Lib.hid hb3
  have HO3 := Lib.hid ho3
  have HU := Lib.hid (show encU l.length ++ encL none l = encT l from rfl)
  clear hb3 ho3
  generalize encU l.length = E at *
  go_wp2_with fail
  go_loopw [3, 12] (fun o i wr => ∃ (j : Nat) (O : List Int), j ≤ l.length ∧ i = .int .i64 j ∧ Hid (O ++ encL (prevK l j) (l.drop j) = encT l) ∧ Hid (Below w.heap.size w wr) ∧ Hid (wr.ownsRow w.heap.size 5 1 o O.length (bV O))) (fun _ i _ => l.length - (intOf i).toNat)
  case atStart => exact ⟨0, E, Nat.zero_le _, rfl, HU, HB3, HO3⟩
  case round =>
    obtain ⟨j, O, hj, rfl, HOE, HB, HO⟩ := hrel
    obtain ⟨oa, ocap, rfl, hoo⟩ := owns_shape HO.out
    have HOO := Lib.hid hoo; clear hoo
    have hOl : O.length ≤ 25000000 := by
      have h1 := congrArg List.length HOE.out
      rw [← HU.out] at h1
      simp only [List.length_append] at h1
      have := HLEN.out; have := HE.out
      omega
    by_cases hlt : j < l.length
    · obtain ⟨b, off, rfl, _, _, hc⟩ := HR.out.at (by omega)
      have hMW := more_of HB.out
      have g0 := hMW.cell (hc _ _ (flat2_get l j hlt).1)
      have g1 := hMW.cell (hc _ _ (flat2_get l j hlt).2)
      rw [← Nat.add_assoc] at g1
      have hbg := cell_lt g0
      have HWX := Lib.hid (HW.out l[j] (List.getElem_mem _))
      have HDR := Lib.hid (List.drop_eq_getElem_cons hlt)
      cases j with
      | zero =>
        clear hc
        have HST := Lib.hid (show (O ++ encU (zz l[0].1)) ++ encU (zz l[0].2) ++ encL (prevK l (0 + 1)) (l.drop (0 + 1)) = encT l by
          rw [← HOE.out, HDR.out, show prevK l (0 + 1) = some l[0].1 from prevK_succ hlt, show prevK l 0 = none from rfl, encL]; simp only [List.append_assoc])
        rw [Nat.zero_mul, Nat.add_zero] at g0 g1
        generalize l[0] = x at *
        go_wp2_with fail
        have HI0 := Lib.hid (show BytsInv w.heap.size w wr.heap.size (.cells #[.int .i64 x.1, .int .i64 x.2] 66) O O.length (.slice oa O.length ocap) (wr.alloc (.cells #[.int .i64 x.1, .int .i64 x.2] 66)) from ⟨HB.out.alloc HB.out.size _, alloc_last _ _, HO.out.alloc _, fun e => by have := (HOO.out _ e).2; omega⟩)
        generalize hwb : wr.alloc (.cells #[.int .i64 x.1, .int .i64 x.2] 66) = wb at *
        clear hwb
        refine (rzz_any x.1 wb HWX.out.1).mono ?_
        rintro e w' ⟨rfl, hw'⟩
        rw [hw']
        clear hw' w'
        go_wp2_with fail
        refine (rput_nil (zz x.1) wb (zz_lt HWX.out.1.1 HWX.out.1.2)).mono ?_
        have he6 := encU_pos (zz x.1)
        have hel6 := encU_len (zz x.1) (zz_lt HWX.out.1.1 HWX.out.1.2)
        generalize encU (zz x.1) = E6 at *
        rintro e w6 ⟨hb6, g6, c6, rfl, _, ho6⟩
        have HI6 := Lib.hid (HI0.out.more (Nat.le_refl _) (more_of hb6))
        have HBY6 := Lib.hid (ByV.of_owns ho6)
        clear hb6 ho6 g0 g1 HI0
        have hmx6 : O.length + E6.length ≤ maxLen := by unfold maxLen; omega
        have hmy6 : (O.length + E6.length) * 1 ≤ 140737488355328 := by omega
        have hbs6 : w.heap.size ≤ w6.heap.size := HI6.out.size (Nat.le_refl _)
        go_wp2_with (at_builtin; refine wpList_append_lies _ rfl _ _ _ rfl w.heap.size 5 i0 _ 1 1 Try.underlying80 hi0 hz0 hz1 hz2 rfl (by omega) (.slice oa (O.length) ocap) (O.length) (bV O) rfl HI6.out.own ⟨g6, 0, none⟩ E6.length c6 (bV E6) rfl (bV_length1 E6) HBY6.out.news (bV_one E6) he6 hmx6 hmy6 hbs6 _ rfl ?_; intro gg6 cap6 wa6 hown6 hgrow6 hat6 hlt6; have HI7 := Lib.hid (HI6.out.app (Nat.le_refl _) hgrow6 hown6 hat6); have k1 : wa6.cell? ⟨wr.heap.size, 1, none⟩ = some (.int .i64 x.2) := (by simp [World.cell?, HI7.out.box]); clear hown6 hgrow6 hat6 hlt6)
        have HX2 := Lib.hid (HWX.out.2)
        refine (rzz_any x.2 wa6 HX2.out).mono ?_
        rintro e w' ⟨rfl, hw'⟩
        rw [hw']
        clear hw' w'
        go_wp2_with fail
        refine (rput_nil (zz x.2) wa6 (zz_lt HX2.out.1 HX2.out.2)).mono ?_
        have he8 := encU_pos (zz x.2)
        have hel8 := encU_len (zz x.2) (zz_lt HX2.out.1 HX2.out.2)
        generalize encU (zz x.2) = E8 at *
        rintro e w8 ⟨hb8, g8, c8, rfl, _, ho8⟩
        have HI8 := Lib.hid (HI7.out.more (Nat.le_refl _) (more_of hb8))
        have HBY8 := Lib.hid (ByV.of_owns ho8)
        clear hb8 ho8 k1 HI7
        have hmx8 : O.length + E6.length + E8.length ≤ maxLen := by unfold maxLen; omega
        have hmy8 : (O.length + E6.length + E8.length) * 1 ≤ 140737488355328 := by omega
        have hbs8 : w.heap.size ≤ w8.heap.size := HI8.out.size (Nat.le_refl _)
        go_wp2_with (at_builtin; refine wpList_append_lies _ rfl _ _ _ rfl w.heap.size 5 i0 _ 1 1 Try.underlying80 hi0 hz0 hz1 hz2 rfl (by omega) (.slice (some ⟨gg6, 0, none⟩) (O.length + E6.length) cap6) (O.length + E6.length) (bV (O ++ E6)) rfl HI8.out.own ⟨g8, 0, none⟩ E8.length c8 (bV E8) rfl (bV_length1 E8) HBY8.out.news (bV_one E8) he8 hmx8 hmy8 hbs8 _ rfl ?_; intro gg8 cap8 wa8 hown8 hgrow8 hat8 hlt8; have HI9 := Lib.hid (HI8.out.app (Nat.le_refl _) hgrow8 hown8 hat8); clear hown8 hgrow8 hat8 hlt8)
        have HOW9 := Lib.hid (show wa8.ownsRow w.heap.size 5 1 (.slice (some ⟨gg8, 0, none⟩) (O.length + E6.length + E8.length) cap8) (O ++ E6 ++ E8).length (bV (O ++ E6 ++ E8)) by rw [List.length_append, List.length_append]; exact HI9.out.own)
        go_wp2_with fail
        go_roundw
        case rel => exact ⟨0 + 1, O ++ E6 ++ E8, by omega, by go_num, HST, Lib.hid HI9.out.below, HOW9⟩
        case measure => simp [intOf]; omega
      | succ i =>
        have hi : i < l.length := by omega
        have pw : w.cell? ⟨b, off + i * 2, none⟩ = some (.int .i64 l[i].1) := hc _ _ (flat2_get l i hi).1
        have HPW := Lib.hid (show ∀ wx, Below w.heap.size w wx → wx.cell? ⟨b, off + i * 2, none⟩ = some (.int .i64 l[i].1) from fun wx hb => (hb.cell (p := ⟨b, off + i * 2, none⟩) (cell_lt pw)).trans pw)
        clear hc pw
        have HLT := Lib.hid (List.pairwise_iff_getElem.1 HA.out i (i + 1) hi hlt (by omega))
        have HWY := Lib.hid (HW.out l[i] (List.getElem_mem _))
        have HST := Lib.hid (show (O ++ encU (l[i + 1].1 - l[i].1 - 1).toNat) ++ encU (zz l[i + 1].2) ++ encL (prevK l (i + 1 + 1)) (l.drop (i + 1 + 1)) = encT l by
          rw [← HOE.out, HDR.out, show prevK l (i + 1 + 1) = some l[i + 1].1 from prevK_succ hlt, show prevK l (i + 1) = some l[i].1 from prevK_succ hi, encL]; simp only [List.append_assoc])
        generalize l[i + 1] = x at *
        generalize l[i] = y at *
        obtain ⟨U, hU, hUl⟩ : ∃ U : Nat, U = (x.1 - y.1 - 1).toNat ∧ U < 18446744073709551616 := ⟨_, rfl, by have := HWX.out.1.2; have := HWY.out.1.1; omega⟩
        have hws := wrap_sub HWX.out.1 HWY.out.1 HLT.out
        rw [← hU] at hws HST
        clear hU
        go_wp2_with fail
        have HI0 := Lib.hid (show BytsInv w.heap.size w wr.heap.size (.cells #[.int .i64 x.1, .int .i64 x.2] 66) O O.length (.slice oa O.length ocap) (wr.alloc (.cells #[.int .i64 x.1, .int .i64 x.2] 66)) from ⟨HB.out.alloc HB.out.size _, alloc_last _ _, HO.out.alloc _, fun e => by have := (HOO.out _ e).2; omega⟩)
        generalize hwb : wr.alloc (.cells #[.int .i64 x.1, .int .i64 x.2] 66) = wb at *
        clear hwb
        have K0 := keep2 HI0.out.box (HPW.out wb HI0.out.below)
        have hub := cell_lt K0.1
        have HCALL := Lib.hid (rput_nil U wb.drew hUl)
        have he6 := encU_pos U
        have hel6 := encU_len U hUl
        generalize encU U = E6 at *
        have hmx6 : O.length + E6.length ≤ maxLen := by unfold maxLen; omega
        have hmy6 : (O.length + E6.length) * 1 ≤ 140737488355328 := by omega
        have b1 : (0 : Int) ≤ (i : Int) := by omega
        have b2 : (i : Int) < (l.length : Int) := by omega
        clear g0 g1 hbg
        have wq : IntKind.i64.wrap (i : Int) = (i : Int) := by rw [IntKind.wrap_i64]; omega
        go_region_held3 (fun wx => wx.cell? ⟨wr.heap.size, 0, none⟩ = some (.int .i64 x.1) ∧ wx.cell? ⟨b, off + i * 2, none⟩ = some (.int .i64 y.1)) (first | with_reducible exact K0 | exact K0 | with_reducible exact K6 | with_reducible exact K7) (first | (go_at_call 86; refine (HCALL.out).mono ?_; rintro e w6 ⟨hb6, g6, c6, rfl, _, ho6⟩; have HI6 := Lib.hid (HI0.out.more (Nat.le_refl _) (more_trans (more_drew wb) (more_of hb6))); have HBY6 := Lib.hid (ByV.of_owns ho6); have hbs6 : w.heap.size ≤ w6.heap.size := HI6.out.size (Nat.le_refl _); have K6 := keep2 HI6.out.box (HPW.out w6 HI6.out.below); clear hb6 ho6) | (refine step_append_lies _ (by rfl) _ _ _ (by rfl) w.heap.size 5 i0 _ 1 1 Try.underlying80 hi0 hz0 hz1 hz2 rfl (by omega) (.slice oa O.length ocap) O.length (bV O) (by rfl) HI6.out.own ⟨g6, 0, none⟩ E6.length c6 (bV E6) (by rfl) (bV_length1 E6) HBY6.out.news (bV_one E6) he6 hmx6 hmy6 hbs6 _ rfl ?_; intro gg6 cap6 wa6 hown6 hgrow6 hat6 hlt6; have HI7 := Lib.hid (HI6.out.app (Nat.le_refl _) hgrow6 hown6 hat6); have k1 : wa6.cell? ⟨wr.heap.size, 1, none⟩ = some (.int .i64 x.2) := (by simp [World.cell?, HI7.out.box]); have K7 := keep2 HI7.out.box (HPW.out wa6 HI7.out.below); clear hown6 hgrow6 hat6 hlt6))
        clear wq K0 K6 K7
        clear hws b1 b2 hub
        go_wp2_with fail
        have HX2 := Lib.hid (HWX.out.2)
        refine (rzz_any x.2 wa6 HX2.out).mono ?_
        rintro e w' ⟨rfl, hw'⟩
        rw [hw']
        clear hw' w'
        go_wp2_with fail
        refine (rput_nil (zz x.2) wa6 (zz_lt HX2.out.1 HX2.out.2)).mono ?_
        have he8 := encU_pos (zz x.2)
        have hel8 := encU_len (zz x.2) (zz_lt HX2.out.1 HX2.out.2)
        generalize encU (zz x.2) = E8 at *
        rintro e w8 ⟨hb8, g8, c8, rfl, _, ho8⟩
        have HI8 := Lib.hid (HI7.out.more (Nat.le_refl _) (more_of hb8))
        have HBY8 := Lib.hid (ByV.of_owns ho8)
        clear hb8 ho8 k1 HI7
        have hmx8 : O.length + E6.length + E8.length ≤ maxLen := by unfold maxLen; omega
        have hmy8 : (O.length + E6.length + E8.length) * 1 ≤ 140737488355328 := by omega
        have hbs8 : w.heap.size ≤ w8.heap.size := HI8.out.size (Nat.le_refl _)
        go_wp2_with (at_builtin; refine wpList_append_lies _ rfl _ _ _ rfl w.heap.size 5 i0 _ 1 1 Try.underlying80 hi0 hz0 hz1 hz2 rfl (by omega) (.slice (some ⟨gg6, 0, none⟩) (O.length + E6.length) cap6) (O.length + E6.length) (bV (O ++ E6)) rfl HI8.out.own ⟨g8, 0, none⟩ E8.length c8 (bV E8) rfl (bV_length1 E8) HBY8.out.news (bV_one E8) he8 hmx8 hmy8 hbs8 _ rfl ?_; intro gg8 cap8 wa8 hown8 hgrow8 hat8 hlt8; have HI9 := Lib.hid (HI8.out.app (Nat.le_refl _) hgrow8 hown8 hat8); clear hown8 hgrow8 hat8 hlt8)
        have HOW9 := Lib.hid (show wa8.ownsRow w.heap.size 5 1 (.slice (some ⟨gg8, 0, none⟩) (O.length + E6.length + E8.length) cap8) (O ++ E6 ++ E8).length (bV (O ++ E6 ++ E8)) by rw [List.length_append, List.length_append]; exact HI9.out.own)
        go_wp2_with fail
        go_roundw
        case rel => exact ⟨i + 1 + 1, O ++ E6 ++ E8, by omega, by go_num, HST, Lib.hid HI9.out.below, HOW9⟩
        case measure => simp [intOf]; omega
    · have HF := Lib.hid (show O = encT l by rw [← HOE.out, List.drop_of_length_le (by omega)]; cases prevK l j <;> simp [encL])
      go_wp2_with fail
      go_ret
      exact ⟨HB.out, _, rfl, by rw [← HF.out]; exact HO.out⟩
end Go.Proofs.Ytekhoanjpnjaeaa
