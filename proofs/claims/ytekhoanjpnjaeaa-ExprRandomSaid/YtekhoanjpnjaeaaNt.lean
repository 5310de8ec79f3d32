/- Texts MkT, laid together. -/
import Derived.Test.YtekhoanjpnjaeaaNs
/- (*maker).truth (154). -/
namespace Go.Proofs.Ytekhoanjpnjaeaa
open Go.RowKit
/-- A bool expression made of bytes. -/
def truF (d : MkD) (prm : Int) : Nat → Int → List Int → Ex × List Int
  | 0, _, l => (.node 2 ByteArray.empty 0 [], l)
  | f + 1, dp, l =>
    if (nextB l 10).1 = 0 then (.node (2 + (nextB (nextB l 10).2 2).1) ByteArray.empty 0 [], (nextB (nextB l 10).2 2).2)
    else if (nextB l 10).1 = 1 ∨ (1 < dp ∧ 4 < (nextB l 10).1) then (.node 5 ⟨#[98, 48]⟩ 0 [], (nextB l 10).2)
    else if (nextB l 10).1 = 2 ∧ 0 < d.flags then (.node 5 (nmB 102 (nextB (nextB l 10).2 d.flags).1.toNat) 0 [], (nextB (nextB l 10).2 d.flags).2)
    else if (nextB l 10).1 = 3 ∧ 0 < d.tables then (.node 7 t0B 0 [(numF d prm 3 1 (nextB l 10).2).1], (numF d prm 3 1 (nextB l 10).2).2)
    else if (nextB l 10).1 = 5 then (.node 10 ByteArray.empty 0 [(truF d prm f (dp + 1) (nextB l 10).2).1], (truF d prm f (dp + 1) (nextB l 10).2).2)
    else if (nextB l 10).1 = 6 ∨ (nextB l 10).1 = 7 then (.node (16 + (nextB l 10).1) ByteArray.empty 0 [(truF d prm f (dp + 1) (nextB l 10).2).1, (truF d prm f (dp + 1) (truF d prm f (dp + 1) (nextB l 10).2).2).1],
      (truF d prm f (dp + 1) (truF d prm f (dp + 1) (nextB l 10).2).2).2)
    else (.node (16 + (nextB (nextB l 10).2 6).1) ByteArray.empty 0 [(numF d prm 3 1 (nextB (nextB l 10).2 6).2).1, (numF d prm 3 1 (numF d prm 3 1 (nextB (nextB l 10).2 6).2).2).1],
      (numF d prm 3 1 (numF d prm 3 1 (nextB (nextB l 10).2 6).2).2).2)
def TruSaid (f : Nat) : Prop := ∀ (MB : Nat) (d : MkD) (prm left dp : Int) (l : List Int) (w : World), MkAt w MB d prm left l → d.Ok prm → 0 ≤ d.flags ∧ d.flags ≤ 2 → dp + f = 3 → 0 ≤ dp → 0 < f →
  Calls Try.prog 154 #[.pointer (some ⟨MB, 0, none⟩), .int .i64 dp] w (ExpAt w MB d prm left (f + 3) (truF d prm f dp l))
theorem repUp {S : Nat → Prop} {W : World} {D E : Nat} {ts : List Ex} {c : Value} (h : RepS .i64 S W D ts c) (hd : D ≤ E) : RepS .i64 S W E ts c := h.mono (fun _ k => k) (fun _ _ _ _ k => k) hd
set_option maxRecDepth 100000 in
set_option maxHeartbeats 4000000 in
theorem truthM_any (f : Nat) : TruSaid f := by
  induction f with
  | zero => intro MB d prm left dp l w h hd hfl hf h0 hp; omega
  | succ f ih =>
    intro MB d prm left dp l w h hd hfl hf h0 _
    have IH := Lib.hid ih; clear ih
    have HMK := Lib.hid h
    have HD := Lib.hid hd
    have HFG := Lib.hid hfl; clear hfl
    have HF := Lib.hid hf
    have HA := Lib.hid (more_allocD w (.cells #[.int .i64 0, .string ⟨#[]⟩, .int .i64 0, .slice none 0 0] 36))
    have HN0 := Lib.hid (alloc_last w (.cells #[.int .i64 0, .string ⟨#[]⟩, .int .i64 0, .slice none 0 0] 36))
    have HM1 := Lib.hid (h.more HA.out)
    have HLT := Lib.hid h.lt
    obtain ⟨NB, HNB⟩ : ∃ B, Hid (B = w.heap.size) := ⟨_, Lib.hid rfl⟩
    rw [← HNB.out] at HN0
    have HCA := Lib.hid (next_any MB d prm left 10 l _ HM1.out (by omega) (by omega))
    have HR := Lib.hid (nextB_rng l (n := 10) (by omega))
    generalize hnum : truF d prm (f + 1) dp l = R
    have HNUM := Lib.hid hnum; clear hnum h hd hf
    obtain ⟨k, l1, hkl⟩ : ∃ k l1, nextB l 10 = (k, l1) := ⟨_, _, rfl⟩
    have HKL := Lib.hid hkl
    unfold truF at HNUM
    rw [hkl] at HCA HR HNUM
    dsimp only at HCA HR HNUM
    clear hkl
    go_enter Try.func154, Try.ntmps154
    go_wp2_with fail
    rw [← HNB.out]
    generalize w.alloc (.cells #[.int .i64 0, .string ⟨#[]⟩, .int .i64 0, .slice none 0 0] 36) = w1 at *
    refine HCA.out.mono ?_
    rintro e w2 ⟨rfl, hmk, hg⟩
    have HM2 := Lib.hid hmk
    have HG2 := Lib.hid (show w.grownBy w2 (some MB) from grow_trans (grow_more HA.out) hg)
    have HN2 := Lib.hid ((hg.block NB (blk_ltD HN0.out) (fun e => by have := HLT.out; have := HNB.out; injection e with e; omega)).trans HN0.out)
    clear hmk hg HCA
    have hk0 : 0 ≤ k := HR.out.1
    have hk1 : k < 10 := HR.out.2
    by_cases hA : k = 0
    · rw [if_pos hA] at HNUM
      have HCB := Lib.hid (next_any MB d prm left 2 l1 w2 HM2.out (by omega) (by omega))
      have HRB := Lib.hid (nextB_rng l1 (n := 2) (by omega))
      obtain ⟨v, l2, hvl⟩ : ∃ v l2, nextB l1 2 = (v, l2) := ⟨_, _, rfl⟩
      rw [hvl] at HCB HRB HNUM
      dsimp only at HCB HRB HNUM
      clear hvl
      have hv0 := HRB.out.1
      have hv9 := HRB.out.2
      subst hA
      go_wp2_with fail
      refine HCB.out.mono ?_
      rintro e w3 ⟨rfl, hmk, hg⟩
      have HM3 := Lib.hid hmk
      have HG3 := Lib.hid (grow_trans HG2.out hg)
      have HN3 := Lib.hid ((hg.block NB (blk_ltD HN2.out) (fun e => by have := HLT.out; have := HNB.out; injection e with e; omega)).trans HN2.out)
      clear hmk hg
      have n0 : w3.cell? ⟨NB, 0, none⟩ = some (.int .i64 0) := by simp [World.cell?, HN3.out]
      have f0 := thaw HN3.out 0
      have n1 : w3.cell? ⟨NB, 1, none⟩ = some (.string ⟨#[]⟩) := by simp [World.cell?, HN3.out]
      have f1 := thaw HN3.out 1
      have n2 : w3.cell? ⟨NB, 2, none⟩ = some (.int .i64 0) := by simp [World.cell?, HN3.out]
      have f2 := thaw HN3.out 2
      have n3 : w3.cell? ⟨NB, 3, none⟩ = some (.slice none 0 0) := by simp [World.cell?, HN3.out]
      have f3 := thaw HN3.out 3
      have hbn := cell_lt n0
      have hwv : IntKind.i64.wrap (2 + v) = 2 + v := by rw [IntKind.wrap_i64]; omega
      go_wp2_with fail
      have HW := set4D HN3.out (.int .i64 (2 + v)) (.string ⟨#[]⟩) (.int .i64 0) (.slice none 0 0)
      refine bodyPost_ret (v := .agg #[.int .i64 (2 + v), .string ⟨#[]⟩, .int .i64 0, .slice none 0 0]) (results_cell_row Try.results154 _ _ NB 36 _ (0, 0) _ rfl HW Try.underlying36 rfl (by kernel_rfl)) rfl ?_
      rw [← HNUM.out]
      exact exp_fin HNB.out HLT.out HG3.out HM3.out HN3.out (flds_small (by omega) (by omega) (by omega) (by omega) (by decide) (by simp)) (RepS.nil _ _ _)
    · rw [if_neg hA] at HNUM
      by_cases hB : k = 1 ∨ (1 < dp ∧ 4 < k)
      · rw [if_pos hB] at HNUM
        by_cases h2 : k = 1
        · subst h2
          clear hB hA
          have n0 : w2.cell? ⟨NB, 0, none⟩ = some (.int .i64 0) := by simp [World.cell?, HN2.out]
          have f0 := thaw HN2.out 0
          have n1 : w2.cell? ⟨NB, 1, none⟩ = some (.string ⟨#[]⟩) := by simp [World.cell?, HN2.out]
          have f1 := thaw HN2.out 1
          have n2 : w2.cell? ⟨NB, 2, none⟩ = some (.int .i64 0) := by simp [World.cell?, HN2.out]
          have f2 := thaw HN2.out 2
          have n3 : w2.cell? ⟨NB, 3, none⟩ = some (.slice none 0 0) := by simp [World.cell?, HN2.out]
          have f3 := thaw HN2.out 3
          have hbn := cell_lt n0
          go_wp2_with fail
          have HW := set4D HN2.out (.int .i64 5) (.string ⟨#[98, 48]⟩) (.int .i64 0) (.slice none 0 0)
          refine bodyPost_ret (v := .agg #[.int .i64 5, .string ⟨#[98, 48]⟩, .int .i64 0, .slice none 0 0]) (results_cell_row Try.results154 _ _ NB 36 _ (0, 0) _ rfl HW Try.underlying36 rfl (by kernel_rfl)) rfl ?_
          rw [← HNUM.out]
          exact exp_fin HNB.out HLT.out HG2.out HM2.out HN2.out (flds_small (by omega) (by omega) (by omega) (by omega) (by decide) (by simp)) (RepS.nil _ _ _)
        · have hdp : 1 < dp := by omega
          have hk5 : 4 < k := by omega
          clear hB
          have n0 : w2.cell? ⟨NB, 0, none⟩ = some (.int .i64 0) := by simp [World.cell?, HN2.out]
          have f0 := thaw HN2.out 0
          have n1 : w2.cell? ⟨NB, 1, none⟩ = some (.string ⟨#[]⟩) := by simp [World.cell?, HN2.out]
          have f1 := thaw HN2.out 1
          have n2 : w2.cell? ⟨NB, 2, none⟩ = some (.int .i64 0) := by simp [World.cell?, HN2.out]
          have f2 := thaw HN2.out 2
          have n3 : w2.cell? ⟨NB, 3, none⟩ = some (.slice none 0 0) := by simp [World.cell?, HN2.out]
          have f3 := thaw HN2.out 3
          have hbn := cell_lt n0
          go_wp2_with fail
          have HW := set4D HN2.out (.int .i64 5) (.string ⟨#[98, 48]⟩) (.int .i64 0) (.slice none 0 0)
          refine bodyPost_ret (v := .agg #[.int .i64 5, .string ⟨#[98, 48]⟩, .int .i64 0, .slice none 0 0]) (results_cell_row Try.results154 _ _ NB 36 _ (0, 0) _ rfl HW Try.underlying36 rfl (by kernel_rfl)) rfl ?_
          rw [← HNUM.out]
          exact exp_fin HNB.out HLT.out HG2.out HM2.out HN2.out (flds_small (by omega) (by omega) (by omega) (by omega) (by decide) (by simp)) (RepS.nil _ _ _)
      · rw [if_neg hB] at HNUM
        have hk1' : k ≠ 1 := by omega
        have c1 := HM2.out.c0.2.1
        have c2 := HM2.out.c0.2.2.1
        have hbm := cell_lt c1
        by_cases hC : k = 2 ∧ 0 < d.flags
        · rw [if_pos hC] at HNUM
          obtain ⟨hC, hpp⟩ := hC
          obtain ⟨fg, HFE⟩ : ∃ g, Hid (d.flags = g) := ⟨_, Lib.hid rfl⟩
          rw [HFE.out] at HNUM hpp c2
          have HPP := Lib.hid (And.intro hpp (show fg ≤ 2 from by rw [← HFE.out]; exact HFG.out.2))
          by_cases hdp : 1 < dp
          · try have hk5 : k ≤ 4 := by omega
            clear hB
            subst hC
            go_upto_region 7 with fail
            clear c1 c2 hbm
            have HM2d := Lib.hid (HM2.out.more (more_drew w2))
            have HG2d := Lib.hid (grow_trans HG2.out (grow_more (more_drew w2)))
            have HN2d := Lib.hid (show w2.drew.heap[NB]? = _ from HN2.out)
            have HKC := Lib.hid (show ∀ W l', MkAt W MB d prm left l' → W.cell? ⟨MB, 2, none⟩ = some (.int .i64 fg) from fun W l' h => by rw [← HFE.out]; exact h.c0.2.2.1)
            refine wp_region_heldP (S := fun W => W.cell? ⟨MB, 2, none⟩ = some (.int .i64 fg)) 6 (by kernel_rfl) ?_
            generalize w2.drew = wd at *
            refine tkS (i := 1) (v := ?_) (by simp only [opA, opS, op0]; exact rfl) (by kernel_rfl) (by kernel_rfl) (HKC.out _ _ HM2d.out) ?_ ?_
            rotate_left
            · intro w hS
              (try dsimp only at hS); first | (go_simp; done) | (go_simp; with_reducible rfl)
            (try simp only [ptS, stA, st0, stS])
            refine tkW (i := 2) (v := ?_) (by simp only [opA, opS, op0]; exact rfl) (by kernel_rfl) (by kernel_rfl) (fun _ => (HKC.out _ _ HM2d.out)) ?_ ?_
            rotate_left
            · intro w hS
              first | (go_simp; done) | (go_simp; with_reducible rfl)
            (try simp only [ptS, stA, st0, stS])
            refine tkW (i := 3) (v := ?_) (by simp only [opA, opS, op0]; exact rfl) (by kernel_rfl) (by kernel_rfl) (fun _ => (HKC.out _ _ HM2d.out)) ?_ ?_
            rotate_left
            · intro w hS
              first | (go_simp; done) | (go_simp; with_reducible rfl)
            (try simp only [ptS, stA, st0, stS])
            refine tkW (i := 4) (v := ?_) (by simp only [opA, opS, op0]; exact rfl) (by kernel_rfl) (by kernel_rfl) (fun _ => (HKC.out _ _ HM2d.out)) ?_ ?_
            rotate_left
            · intro w hS
              first | (go_simp; done) | (go_simp; with_reducible rfl)
            (try simp only [ptS, stA, st0, stS])
            refine tkS (i := 5) (v := ?_) (by simp only [opA, opS, op0]; exact rfl) (by kernel_rfl) (by kernel_rfl) (HKC.out _ _ HM2d.out) ?_ ?_
            rotate_left
            · intro w hS
              (try dsimp only at hS); first | (go_simp; done) | (go_simp; with_reducible rfl)
            (try simp only [ptS, stA, st0, stS])
            refine wpAnyP_ready (rs := [0]) (by kernel_rfl) (by simp) ?_
            refine (AllReadyP.cons (by simp only [opA, op0]; exact rfl) (fun K hK => ?_) AllReadyP.nil)
            rw [if_pos (by kernel_rfl)]
            have HC := Lib.hid (names_any 102 2 102 2 wd rfl rfl (by omega) (by omega))
            go_simp
            refine HC.out.mono ?_
            rintro e w3 ⟨⟨v1, rfl, ho⟩, hm⟩
            have HO3 := Lib.hid ho
            have HX3 := Lib.hid hm
            obtain ⟨oa, oc, rfl, _⟩ := owns_shape ho
            clear ho hm HC
            have HM3 := Lib.hid (HM2d.out.more HX3.out)
            have HG3 := Lib.hid (grow_trans HG2d.out (grow_more HX3.out))
            have HN3 := Lib.hid ((HX3.out.block (blk_ltD HN2d.out)).trans HN2d.out)
            try go_wp2_with fail
            refine hK.out _ _ (fun _ => (HKC.out _ _ HM3.out)) ?_
            clear hK K
            (try simp only [ptS, stA, st0, stS])
            refine wpAnyP_ready (rs := [6]) (by kernel_rfl) (by simp) ?_
            refine (AllReadyP.cons (by simp only [opA, opS, op0]; exact rfl) (fun K hK => ?_) AllReadyP.nil)
            rw [if_pos (by kernel_rfl)]
            have HC := Lib.hid (next_any MB d prm left fg l1 w3 HM3.out HPP.out.1 (by have := HPP.out.2; omega))
            have HRR := Lib.hid (show 0 ≤ (nextB l1 fg).1 ∧ (nextB l1 fg).1 < 2 from by have h1 := nextB_rng l1 HPP.out.1; have h2 := HPP.out.2; omega)
            obtain ⟨r, HRE⟩ : ∃ r : Nat, Hid ((nextB l1 fg).1 = r) := ⟨(nextB l1 fg).1.toNat, Lib.hid (by have := HRR.out; omega)⟩
            rw [HRE.out] at HC HRR HNUM
            go_simp
            refine HC.out.mono ?_
            rintro e w4 ⟨rfl, hmk, hg⟩
            have HM4 := Lib.hid hmk
            have HG4 := Lib.hid (grow_trans HG3.out hg)
            have HN4 := Lib.hid ((hg.block NB (blk_ltD HN3.out) (fun e => by have := HLT.out; have := HNB.out; injection e with e; omega)).trans HN3.out)
            have hr3 : r < 2 := by have := HRR.out; omega
            have hr3i : (r : Int) < 2 := by omega
            have HO4 := Lib.hid (owns_keep HO3.out (fun z hz => hg.block z (HO3.out.lt z hz).2 (fun e => by have := (HO3.out.lt z hz).1; have := HM2d.out.lt; injection e with e; omega)))
            clear hmk hg HC
            obtain ⟨b, off, hbo, _, _, hc⟩ := (Row.of_owns HO4.out).at (by omega)
            subst hbo
            have e0 : w4.cell? ⟨b, off + r, none⟩ = some (.string (nmB 102 r)) := by
              have h := hc r (.string (nmB 102 r)) (by unfold namesL; simp [hr3])
              simpa using h
            clear hc
            have hbe := cell_lt e0
            try go_wp2_with fail
            refine hK.out _ _ (gone (by kernel_rfl)) ?_
            clear hK K
            (try simp only [ptS, stA, st0, stS])
            refine tkW (i := 7) (v := ?_) (by simp only [opA, opS, op0]; exact rfl) (by kernel_rfl) (by kernel_rfl) (gone (by kernel_rfl)) ?_ ?_
            rotate_left
            · intro w hS
              first | (go_simp; done) | (go_simp; with_reducible rfl)
            (try simp only [ptS, stA, st0, stS])
            refine wpAnyP_ready (rs := [8]) (by kernel_rfl) (by simp) ?_
            refine (AllReadyP.cons (by simp only [opA, opS, op0]; exact rfl) (fun K hK => ?_) AllReadyP.nil)
            rw [if_pos (by kernel_rfl)]
            go_simp
            rw [Int.toNat_natCast] at HNUM
            obtain ⟨nm, HNM⟩ : ∃ s, Hid (nmB 102 r = s) := ⟨_, Lib.hid rfl⟩
            have HNZ := Lib.hid (show nm.size ≤ 2 by rw [← HNM.out]; exact Nat.le_refl _)
            rw [HNM.out] at HNUM ⊢
            clear e0 hbe
            refine hK.out _ _ (gone (by kernel_rfl)) ?_
            clear hK K
            (try simp only [ptS, stA, st0, stS])
            refine tkW (i := 9) (v := ?_) (by simp only [opA, opS, op0]; exact rfl) (by kernel_rfl) (by kernel_rfl) (gone (by kernel_rfl)) ?_ ?_
            rotate_left
            · intro w hS
              first | (go_simp; done) | (go_simp; with_reducible rfl)
            (try simp only [ptS, stA, st0, stS])
            refine wpAnyP_ready (rs := [10]) (by kernel_rfl) (by simp) ?_
            refine (AllReadyP.cons (by simp only [opA, opS, op0]; exact rfl) (fun K hK => ?_) AllReadyP.nil)
            rw [if_pos (by kernel_rfl)]
            have n0 : w4.cell? ⟨NB, 0, none⟩ = some (.int .i64 0) := by simp [World.cell?, HN4.out]
            have f0 := thaw HN4.out 0
            have n1 : w4.cell? ⟨NB, 1, none⟩ = some (.string ⟨#[]⟩) := by simp [World.cell?, HN4.out]
            have f1 := thaw HN4.out 1
            have n2 : w4.cell? ⟨NB, 2, none⟩ = some (.int .i64 0) := by simp [World.cell?, HN4.out]
            have f2 := thaw HN4.out 2
            have n3 : w4.cell? ⟨NB, 3, none⟩ = some (.slice none 0 0) := by simp [World.cell?, HN4.out]
            have f3 := thaw HN4.out 3
            have hbn := cell_lt n0
            go_simp
            refine hK.out _ _ (gone (by kernel_rfl)) ?_
            clear hK K
            (try simp only [ptN])
            refine wpAnyP_done (by kernel_rfl) ?_ _
            go_wp2_with fail
            have HW := set4D HN4.out (.int .i64 5) (.string nm) (.int .i64 0) (.slice none 0 0)
            refine bodyPost_ret (v := .agg #[.int .i64 5, .string nm, .int .i64 0, .slice none 0 0]) (results_cell_row Try.results154 _ _ NB 36 _ (0, 0) _ rfl HW Try.underlying36 rfl (by kernel_rfl)) rfl ?_
            rw [← HNUM.out]
            exact exp_fin HNB.out HLT.out HG4.out HM4.out HN4.out (flds_small (by omega) (by omega) (by omega) (by omega) HNZ.out (by simp)) (RepS.nil _ _ _)
          · have hdp2 : dp ≤ 1 := by omega
            clear hB hdp
            subst hC
            go_upto_region 7 with fail
            clear c1 c2 hbm
            have HM2d := Lib.hid (HM2.out.more (more_drew w2))
            have HG2d := Lib.hid (grow_trans HG2.out (grow_more (more_drew w2)))
            have HN2d := Lib.hid (show w2.drew.heap[NB]? = _ from HN2.out)
            have HKC := Lib.hid (show ∀ W l', MkAt W MB d prm left l' → W.cell? ⟨MB, 2, none⟩ = some (.int .i64 fg) from fun W l' h => by rw [← HFE.out]; exact h.c0.2.2.1)
            refine wp_region_heldP (S := fun W => W.cell? ⟨MB, 2, none⟩ = some (.int .i64 fg)) 6 (by kernel_rfl) ?_
            generalize w2.drew = wd at *
            refine tkS (i := 1) (v := ?_) (by simp only [opA, opS, op0]; exact rfl) (by kernel_rfl) (by kernel_rfl) (HKC.out _ _ HM2d.out) ?_ ?_
            rotate_left
            · intro w hS
              (try dsimp only at hS); first | (go_simp; done) | (go_simp; with_reducible rfl)
            (try simp only [ptS, stA, st0, stS])
            refine tkW (i := 2) (v := ?_) (by simp only [opA, opS, op0]; exact rfl) (by kernel_rfl) (by kernel_rfl) (fun _ => (HKC.out _ _ HM2d.out)) ?_ ?_
            rotate_left
            · intro w hS
              first | (go_simp; done) | (go_simp; with_reducible rfl)
            (try simp only [ptS, stA, st0, stS])
            refine tkW (i := 3) (v := ?_) (by simp only [opA, opS, op0]; exact rfl) (by kernel_rfl) (by kernel_rfl) (fun _ => (HKC.out _ _ HM2d.out)) ?_ ?_
            rotate_left
            · intro w hS
              first | (go_simp; done) | (go_simp; with_reducible rfl)
            (try simp only [ptS, stA, st0, stS])
            refine tkW (i := 4) (v := ?_) (by simp only [opA, opS, op0]; exact rfl) (by kernel_rfl) (by kernel_rfl) (fun _ => (HKC.out _ _ HM2d.out)) ?_ ?_
            rotate_left
            · intro w hS
              first | (go_simp; done) | (go_simp; with_reducible rfl)
            (try simp only [ptS, stA, st0, stS])
            refine tkS (i := 5) (v := ?_) (by simp only [opA, opS, op0]; exact rfl) (by kernel_rfl) (by kernel_rfl) (HKC.out _ _ HM2d.out) ?_ ?_
            rotate_left
            · intro w hS
              (try dsimp only at hS); first | (go_simp; done) | (go_simp; with_reducible rfl)
            (try simp only [ptS, stA, st0, stS])
            refine wpAnyP_ready (rs := [0]) (by kernel_rfl) (by simp) ?_
            refine (AllReadyP.cons (by simp only [opA, op0]; exact rfl) (fun K hK => ?_) AllReadyP.nil)
            rw [if_pos (by kernel_rfl)]
            have HC := Lib.hid (names_any 102 2 102 2 wd rfl rfl (by omega) (by omega))
            go_simp
            refine HC.out.mono ?_
            rintro e w3 ⟨⟨v1, rfl, ho⟩, hm⟩
            have HO3 := Lib.hid ho
            have HX3 := Lib.hid hm
            obtain ⟨oa, oc, rfl, _⟩ := owns_shape ho
            clear ho hm HC
            have HM3 := Lib.hid (HM2d.out.more HX3.out)
            have HG3 := Lib.hid (grow_trans HG2d.out (grow_more HX3.out))
            have HN3 := Lib.hid ((HX3.out.block (blk_ltD HN2d.out)).trans HN2d.out)
            try go_wp2_with fail
            refine hK.out _ _ (fun _ => (HKC.out _ _ HM3.out)) ?_
            clear hK K
            (try simp only [ptS, stA, st0, stS])
            refine wpAnyP_ready (rs := [6]) (by kernel_rfl) (by simp) ?_
            refine (AllReadyP.cons (by simp only [opA, opS, op0]; exact rfl) (fun K hK => ?_) AllReadyP.nil)
            rw [if_pos (by kernel_rfl)]
            have HC := Lib.hid (next_any MB d prm left fg l1 w3 HM3.out HPP.out.1 (by have := HPP.out.2; omega))
            have HRR := Lib.hid (show 0 ≤ (nextB l1 fg).1 ∧ (nextB l1 fg).1 < 2 from by have h1 := nextB_rng l1 HPP.out.1; have h2 := HPP.out.2; omega)
            obtain ⟨r, HRE⟩ : ∃ r : Nat, Hid ((nextB l1 fg).1 = r) := ⟨(nextB l1 fg).1.toNat, Lib.hid (by have := HRR.out; omega)⟩
            rw [HRE.out] at HC HRR HNUM
            go_simp
            refine HC.out.mono ?_
            rintro e w4 ⟨rfl, hmk, hg⟩
            have HM4 := Lib.hid hmk
            have HG4 := Lib.hid (grow_trans HG3.out hg)
            have HN4 := Lib.hid ((hg.block NB (blk_ltD HN3.out) (fun e => by have := HLT.out; have := HNB.out; injection e with e; omega)).trans HN3.out)
            have hr3 : r < 2 := by have := HRR.out; omega
            have hr3i : (r : Int) < 2 := by omega
            have HO4 := Lib.hid (owns_keep HO3.out (fun z hz => hg.block z (HO3.out.lt z hz).2 (fun e => by have := (HO3.out.lt z hz).1; have := HM2d.out.lt; injection e with e; omega)))
            clear hmk hg HC
            obtain ⟨b, off, hbo, _, _, hc⟩ := (Row.of_owns HO4.out).at (by omega)
            subst hbo
            have e0 : w4.cell? ⟨b, off + r, none⟩ = some (.string (nmB 102 r)) := by
              have h := hc r (.string (nmB 102 r)) (by unfold namesL; simp [hr3])
              simpa using h
            clear hc
            have hbe := cell_lt e0
            try go_wp2_with fail
            refine hK.out _ _ (gone (by kernel_rfl)) ?_
            clear hK K
            (try simp only [ptS, stA, st0, stS])
            refine tkW (i := 7) (v := ?_) (by simp only [opA, opS, op0]; exact rfl) (by kernel_rfl) (by kernel_rfl) (gone (by kernel_rfl)) ?_ ?_
            rotate_left
            · intro w hS
              first | (go_simp; done) | (go_simp; with_reducible rfl)
            (try simp only [ptS, stA, st0, stS])
            refine wpAnyP_ready (rs := [8]) (by kernel_rfl) (by simp) ?_
            refine (AllReadyP.cons (by simp only [opA, opS, op0]; exact rfl) (fun K hK => ?_) AllReadyP.nil)
            rw [if_pos (by kernel_rfl)]
            go_simp
            rw [Int.toNat_natCast] at HNUM
            obtain ⟨nm, HNM⟩ : ∃ s, Hid (nmB 102 r = s) := ⟨_, Lib.hid rfl⟩
            have HNZ := Lib.hid (show nm.size ≤ 2 by rw [← HNM.out]; exact Nat.le_refl _)
            rw [HNM.out] at HNUM ⊢
            clear e0 hbe
            refine hK.out _ _ (gone (by kernel_rfl)) ?_
            clear hK K
            (try simp only [ptS, stA, st0, stS])
            refine tkW (i := 9) (v := ?_) (by simp only [opA, opS, op0]; exact rfl) (by kernel_rfl) (by kernel_rfl) (gone (by kernel_rfl)) ?_ ?_
            rotate_left
            · intro w hS
              first | (go_simp; done) | (go_simp; with_reducible rfl)
            (try simp only [ptS, stA, st0, stS])
            refine wpAnyP_ready (rs := [10]) (by kernel_rfl) (by simp) ?_
            refine (AllReadyP.cons (by simp only [opA, opS, op0]; exact rfl) (fun K hK => ?_) AllReadyP.nil)
            rw [if_pos (by kernel_rfl)]
            have n0 : w4.cell? ⟨NB, 0, none⟩ = some (.int .i64 0) := by simp [World.cell?, HN4.out]
            have f0 := thaw HN4.out 0
            have n1 : w4.cell? ⟨NB, 1, none⟩ = some (.string ⟨#[]⟩) := by simp [World.cell?, HN4.out]
            have f1 := thaw HN4.out 1
            have n2 : w4.cell? ⟨NB, 2, none⟩ = some (.int .i64 0) := by simp [World.cell?, HN4.out]
            have f2 := thaw HN4.out 2
            have n3 : w4.cell? ⟨NB, 3, none⟩ = some (.slice none 0 0) := by simp [World.cell?, HN4.out]
            have f3 := thaw HN4.out 3
            have hbn := cell_lt n0
            go_simp
            refine hK.out _ _ (gone (by kernel_rfl)) ?_
            clear hK K
            (try simp only [ptN])
            refine wpAnyP_done (by kernel_rfl) ?_ _
            go_wp2_with fail
            have HW := set4D HN4.out (.int .i64 5) (.string nm) (.int .i64 0) (.slice none 0 0)
            refine bodyPost_ret (v := .agg #[.int .i64 5, .string nm, .int .i64 0, .slice none 0 0]) (results_cell_row Try.results154 _ _ NB 36 _ (0, 0) _ rfl HW Try.underlying36 rfl (by kernel_rfl)) rfl ?_
            rw [← HNUM.out]
            exact exp_fin HNB.out HLT.out HG4.out HM4.out HN4.out (flds_small (by omega) (by omega) (by omega) (by omega) HNZ.out (by simp)) (RepS.nil _ _ _)
        · rw [if_neg hC] at HNUM
          by_cases hD : k = 3 ∧ 0 < d.tables
          · rw [if_pos hD] at HNUM
            obtain ⟨hD, hpp⟩ := hD
            subst hD
            by_cases hdp : 1 < dp
            · try have hk5 : k ≤ 4 := by omega
              clear hB
              have HCR := Lib.hid (number_any 3 MB d prm left 1 l1 w2 HM2.out HD.out (by omega) (by omega) (by omega))
              obtain ⟨t3, l2, hR⟩ : ∃ t r, numF d prm 3 1 l1 = (t, r) := ⟨_, _, rfl⟩
              rw [hR] at HCR HNUM
              dsimp only at HNUM
              clear hR
              go_wp2_with fail
              refine HCR.out.mono ?_
              rintro e w3 ⟨c3, rfl, hf, hr, hmk, hg⟩
              have HFl3 := Lib.hid hf
              have HRp3 := Lib.hid hr
              have HM3 := Lib.hid hmk
              have HG3 := Lib.hid (grow_trans HG2.out hg)
              have HGl3 := Lib.hid hg
              have HN3 := Lib.hid ((hg.block NB (blk_ltD HN2.out) (fun e => by have := HLT.out; have := HNB.out; injection e with e; omega)).trans HN2.out)
              obtain ⟨ca3, cc3, hsh⟩ := hr.shape
              dsimp only at hsh
              subst hsh
              clear hf hr hmk hg HCR
              unfold agg
              have n0 : w3.cell? ⟨NB, 0, none⟩ = some (.int .i64 0) := by simp [World.cell?, HN3.out]
              have f0 := thaw HN3.out 0
              have n1 : w3.cell? ⟨NB, 1, none⟩ = some (.string ⟨#[]⟩) := by simp [World.cell?, HN3.out]
              have f1 := thaw HN3.out 1
              have n2 : w3.cell? ⟨NB, 2, none⟩ = some (.int .i64 0) := by simp [World.cell?, HN3.out]
              have f2 := thaw HN3.out 2
              have n3 : w3.cell? ⟨NB, 3, none⟩ = some (.slice none 0 0) := by simp [World.cell?, HN3.out]
              have f3 := thaw HN3.out 3
              have hbn := cell_lt n0
              go_wp2_with fail
              have HW := set4D HN3.out (.int .i64 7) (.string ⟨#[116, 48]⟩) (.int .i64 0) ((.slice (some ⟨w3.heap.size, 0, none⟩) 1 1))
              refine bodyPost_ret (v := .agg #[.int .i64 7, .string ⟨#[116, 48]⟩, .int .i64 0, (.slice (some ⟨w3.heap.size, 0, none⟩) 1 1)]) (results_cell_row Try.results154 _ _ NB 36 _ (0, 0) _ rfl (((more_allocD _ _).block (blk_ltD HW)).trans HW) Try.underlying36 rfl (by kernel_rfl)) rfl ?_
              rw [← HNUM.out]
              exact exp_finA HNB.out HLT.out HG3.out HM3.out (flds_small (by omega) (by omega) (by omega) (by omega) (by decide) (by simp)) (repUp (rep1D new4 (blk_ltD HN3.out) HFl3.out (kid4 (blk_ltD HN2.out) HRp3.out)) (by omega))
            · have hdp2 : dp ≤ 1 := by omega
              clear hB hdp
              have HCR := Lib.hid (number_any 3 MB d prm left 1 l1 w2 HM2.out HD.out (by omega) (by omega) (by omega))
              obtain ⟨t3, l2, hR⟩ : ∃ t r, numF d prm 3 1 l1 = (t, r) := ⟨_, _, rfl⟩
              rw [hR] at HCR HNUM
              dsimp only at HNUM
              clear hR
              go_wp2_with fail
              refine HCR.out.mono ?_
              rintro e w3 ⟨c3, rfl, hf, hr, hmk, hg⟩
              have HFl3 := Lib.hid hf
              have HRp3 := Lib.hid hr
              have HM3 := Lib.hid hmk
              have HG3 := Lib.hid (grow_trans HG2.out hg)
              have HGl3 := Lib.hid hg
              have HN3 := Lib.hid ((hg.block NB (blk_ltD HN2.out) (fun e => by have := HLT.out; have := HNB.out; injection e with e; omega)).trans HN2.out)
              obtain ⟨ca3, cc3, hsh⟩ := hr.shape
              dsimp only at hsh
              subst hsh
              clear hf hr hmk hg HCR
              unfold agg
              have n0 : w3.cell? ⟨NB, 0, none⟩ = some (.int .i64 0) := by simp [World.cell?, HN3.out]
              have f0 := thaw HN3.out 0
              have n1 : w3.cell? ⟨NB, 1, none⟩ = some (.string ⟨#[]⟩) := by simp [World.cell?, HN3.out]
              have f1 := thaw HN3.out 1
              have n2 : w3.cell? ⟨NB, 2, none⟩ = some (.int .i64 0) := by simp [World.cell?, HN3.out]
              have f2 := thaw HN3.out 2
              have n3 : w3.cell? ⟨NB, 3, none⟩ = some (.slice none 0 0) := by simp [World.cell?, HN3.out]
              have f3 := thaw HN3.out 3
              have hbn := cell_lt n0
              go_wp2_with fail
              have HW := set4D HN3.out (.int .i64 7) (.string ⟨#[116, 48]⟩) (.int .i64 0) ((.slice (some ⟨w3.heap.size, 0, none⟩) 1 1))
              refine bodyPost_ret (v := .agg #[.int .i64 7, .string ⟨#[116, 48]⟩, .int .i64 0, (.slice (some ⟨w3.heap.size, 0, none⟩) 1 1)]) (results_cell_row Try.results154 _ _ NB 36 _ (0, 0) _ rfl (((more_allocD _ _).block (blk_ltD HW)).trans HW) Try.underlying36 rfl (by kernel_rfl)) rfl ?_
              rw [← HNUM.out]
              exact exp_finA HNB.out HLT.out HG3.out HM3.out (flds_small (by omega) (by omega) (by omega) (by omega) (by decide) (by simp)) (repUp (rep1D new4 (blk_ltD HN3.out) HFl3.out (kid4 (blk_ltD HN2.out) HRp3.out)) (by omega))
          · rw [if_neg hD] at HNUM
            by_cases hE : k = 5
            · rw [if_pos hE] at HNUM
              subst hE
              have hdp2 : dp ≤ 1 := by omega
              clear hA hB hC hD hk1'
              have HFP := Lib.hid (show dp + 1 + (f : Int) = 3 ∧ 0 ≤ dp + 1 ∧ 0 < f from by have := HF.out; omega)
              have HCR := Lib.hid (IH.out MB d prm left (dp + 1) l1 w2 HM2.out HD.out HFG.out HFP.out.1 HFP.out.2.1 HFP.out.2.2)
              obtain ⟨t3, l2, hR⟩ : ∃ t r, truF d prm f (dp + 1) l1 = (t, r) := ⟨_, _, rfl⟩
              rw [hR] at HCR HNUM
              dsimp only at HNUM
              clear hR
              go_wp2_with fail
              refine HCR.out.mono ?_
              rintro e w3 ⟨c3, rfl, hf, hr, hmk, hg⟩
              have HFl3 := Lib.hid hf
              have HRp3 := Lib.hid hr
              have HM3 := Lib.hid hmk
              have HG3 := Lib.hid (grow_trans HG2.out hg)
              have HGl3 := Lib.hid hg
              have HN3 := Lib.hid ((hg.block NB (blk_ltD HN2.out) (fun e => by have := HLT.out; have := HNB.out; injection e with e; omega)).trans HN2.out)
              obtain ⟨ca3, cc3, hsh⟩ := hr.shape
              dsimp only at hsh
              subst hsh
              clear hf hr hmk hg HCR
              unfold agg
              have n0 : w3.cell? ⟨NB, 0, none⟩ = some (.int .i64 0) := by simp [World.cell?, HN3.out]
              have f0 := thaw HN3.out 0
              have n1 : w3.cell? ⟨NB, 1, none⟩ = some (.string ⟨#[]⟩) := by simp [World.cell?, HN3.out]
              have f1 := thaw HN3.out 1
              have n2 : w3.cell? ⟨NB, 2, none⟩ = some (.int .i64 0) := by simp [World.cell?, HN3.out]
              have f2 := thaw HN3.out 2
              have n3 : w3.cell? ⟨NB, 3, none⟩ = some (.slice none 0 0) := by simp [World.cell?, HN3.out]
              have f3 := thaw HN3.out 3
              have hbn := cell_lt n0
              go_wp2_with fail
              have HW := set4D HN3.out (.int .i64 10) (.string ⟨#[]⟩) (.int .i64 0) ((.slice (some ⟨w3.heap.size, 0, none⟩) 1 1))
              refine bodyPost_ret (v := .agg #[.int .i64 10, .string ⟨#[]⟩, .int .i64 0, (.slice (some ⟨w3.heap.size, 0, none⟩) 1 1)]) (results_cell_row Try.results154 _ _ NB 36 _ (0, 0) _ rfl (((more_allocD _ _).block (blk_ltD HW)).trans HW) Try.underlying36 rfl (by kernel_rfl)) rfl ?_
              rw [← HNUM.out]
              exact exp_finA HNB.out HLT.out HG3.out HM3.out (flds_small (by omega) (by omega) (by omega) (by omega) (by decide) (by simp)) (repUp (rep1D new4 (blk_ltD HN3.out) HFl3.out (kid4 (blk_ltD HN2.out) HRp3.out)) (by omega))
            · rw [if_neg hE] at HNUM
              by_cases hG : k = 6 ∨ k = 7
              · rw [if_pos hG] at HNUM
                have hdp2 : dp ≤ 1 := by omega
                clear hA hB hC hD hE hk1' c1 c2 hbm
                have HFP := Lib.hid (show dp + 1 + (f : Int) = 3 ∧ 0 ≤ dp + 1 ∧ 0 < f from by have := HF.out; omega)
                have HNP := Lib.hid HN2.out
                rcases hG with rfl | rfl
                · skip
                  have HCR := Lib.hid (IH.out MB d prm left (dp + 1) l1 w2 HM2.out HD.out HFG.out HFP.out.1 HFP.out.2.1 HFP.out.2.2)
                  obtain ⟨t4, l4, hR⟩ : ∃ t r, truF d prm f (dp + 1) l1 = (t, r) := ⟨_, _, rfl⟩
                  rw [hR] at HCR HNUM
                  dsimp only at HNUM
                  clear hR
                  go_wp2_with fail
                  refine HCR.out.mono ?_
                  rintro e w4 ⟨c4, rfl, hf, hr, hmk, hg⟩
                  have HFl4 := Lib.hid hf
                  have HRp4 := Lib.hid hr
                  have HM4 := Lib.hid hmk
                  have HG4 := Lib.hid (grow_trans HG2.out hg)
                  have HGl4 := Lib.hid hg
                  have HN4 := Lib.hid ((hg.block NB (blk_ltD HN2.out) (fun e => by have := HLT.out; have := HNB.out; injection e with e; omega)).trans HN2.out)
                  obtain ⟨ca4, cc4, hsh⟩ := hr.shape
                  dsimp only at hsh
                  subst hsh
                  clear hf hr hmk hg HCR
                  unfold agg
                  have HA5 := Lib.hid (more_allocD w4 (.cells #[.int .i64 t4.op, .string t4.name, .int .i64 t4.n, .slice ca4 t4.args.length cc4] 36))
                  have HX5 := Lib.hid (alloc_last w4 (.cells #[.int .i64 t4.op, .string t4.name, .int .i64 t4.n, .slice ca4 t4.args.length cc4] 36))
                  go_upto_region 14 with fail
                  generalize w4.alloc (.cells #[.int .i64 t4.op, .string t4.name, .int .i64 t4.n, .slice ca4 t4.args.length cc4] 36) = w5 at *
                  obtain ⟨TB, HTB⟩ : ∃ B, Hid (B = w4.heap.size) := ⟨_, Lib.hid rfl⟩
                  rw [← HTB.out] at HX5 ⊢
                  have HM5 := Lib.hid (HM4.out.more (more_trans HA5.out (more_drew w5)))
                  have HG5 := Lib.hid (grow_trans HG4.out (grow_more (more_trans HA5.out (more_drew w5))))
                  have HN5 := Lib.hid (show w5.drew.heap[NB]? = _ from (HA5.out.block (blk_ltD HN4.out)).trans HN4.out)
                  have HX5d := Lib.hid (show w5.drew.heap[TB]? = _ from HX5.out)
                  have HRp5 := Lib.hid (show RepS .i64 (fun b => NB < b ∧ b < TB) w5.drew (f + 3) t4.args (.slice ca4 t4.args.length cc4) from HRp4.out.mono2 (fun b off u hb hc => ⟨⟨by have := blk_ltD HNP.out; omega, by have h8 : b < w4.heap.size := World.block_lt_of_cell? w4 ⟨b, off, none⟩ hc; have := HTB.out; omega⟩, (more_trans HA5.out (more_drew w5)).cell hc⟩) (Nat.le_refl _))
                  have HKT := Lib.hid (show ∀ W : World, W.heap[TB]? = some (.cells #[.int .i64 t4.op, .string t4.name, .int .i64 t4.n, .slice ca4 t4.args.length cc4] 36) → (W.cell? ⟨TB, 0, none⟩ = some (.int .i64 t4.op) ∧ W.cell? ⟨TB, 1, none⟩ = some (.string t4.name) ∧ W.cell? ⟨TB, 2, none⟩ = some (.int .i64 t4.n) ∧ W.cell? ⟨TB, 3, none⟩ = some (.slice ca4 t4.args.length cc4)) from fun W h => ⟨by simp [World.cell?, h], by simp [World.cell?, h], by simp [World.cell?, h], by simp [World.cell?, h]⟩)
                  have hbt := blk_ltD HX5d.out
                  have hwr : IntKind.i64.wrap (dp + 1) = dp + 1 := by rw [IntKind.wrap_i64]; omega
                  refine wp_region_heldP (S := fun W => W.cell? ⟨TB, 0, none⟩ = some (.int .i64 t4.op) ∧ W.cell? ⟨TB, 1, none⟩ = some (.string t4.name) ∧ W.cell? ⟨TB, 2, none⟩ = some (.int .i64 t4.n) ∧ W.cell? ⟨TB, 3, none⟩ = some (.slice ca4 t4.args.length cc4)) 9 (by kernel_rfl) ?_
                  generalize w5.drew = wd at *
                  refine tkS (i := 0) (v := ?_) (by simp only [opA, op0]; exact rfl) (by kernel_rfl) (by kernel_rfl) (HKT.out _ HX5d.out) ?_ ?_
                  rotate_left
                  · intro w hS
                    (try dsimp only at hS); first | (go_simp; done) | (go_simp; with_reducible rfl)
                  (try simp only [ptS, stA, st0, stS])
                  refine tkS (i := 1) (v := ?_) (by simp only [opA, opS, op0]; exact rfl) (by kernel_rfl) (by kernel_rfl) (HKT.out _ HX5d.out) ?_ ?_
                  rotate_left
                  · intro w hS
                    (try dsimp only at hS); first | (go_simp; done) | (go_simp; with_reducible rfl)
                  (try simp only [ptS, stA, st0, stS])
                  refine tkS (i := 2) (v := ?_) (by simp only [opA, opS, op0]; exact rfl) (by kernel_rfl) (by kernel_rfl) (HKT.out _ HX5d.out) ?_ ?_
                  rotate_left
                  · intro w hS
                    (try dsimp only at hS); first | (go_simp; done) | (go_simp; with_reducible rfl)
                  (try simp only [ptS, stA, st0, stS])
                  refine tkS (i := 3) (v := ?_) (by simp only [opA, opS, op0]; exact rfl) (by kernel_rfl) (by kernel_rfl) (HKT.out _ HX5d.out) ?_ ?_
                  rotate_left
                  · intro w hS
                    (try dsimp only at hS); first | (go_simp; done) | (go_simp; with_reducible rfl)
                  (try simp only [ptS, stA, st0, stS])
                  refine tkS (i := 4) (v := ?_) (by simp only [opA, opS, op0]; exact rfl) (by kernel_rfl) (by kernel_rfl) (HKT.out _ HX5d.out) ?_ ?_
                  rotate_left
                  · intro w hS
                    (try dsimp only at hS); first | (go_simp; done) | (go_simp; with_reducible rfl)
                  (try simp only [ptS, stA, st0, stS])
                  refine tkS (i := 5) (v := ?_) (by simp only [opA, opS, op0]; exact rfl) (by kernel_rfl) (by kernel_rfl) (HKT.out _ HX5d.out) ?_ ?_
                  rotate_left
                  · intro w hS
                    (try dsimp only at hS); first | (go_simp; done) | (go_simp; with_reducible rfl)
                  (try simp only [ptS, stA, st0, stS])
                  refine wpAnyP_ready (rs := [6]) (by kernel_rfl) (by simp) ?_
                  refine (AllReadyP.cons (by simp only [opA, opS, op0]; exact rfl) (fun K hK => ?_) AllReadyP.nil)
                  rw [if_pos (by kernel_rfl)]
                  have HCR := Lib.hid (IH.out MB d prm left (dp + 1) l4 wd HM5.out HD.out HFG.out HFP.out.1 HFP.out.2.1 HFP.out.2.2)
                  obtain ⟨t6, l6, hR⟩ : ∃ t r, truF d prm f (dp + 1) l4 = (t, r) := ⟨_, _, rfl⟩
                  rw [hR] at HCR HNUM
                  dsimp only at HNUM
                  clear hR
                  go_simp
                  refine HCR.out.mono ?_
                  rintro e w6 ⟨c6, rfl, hf, hr, hmk, hg⟩
                  have HFl6 := Lib.hid hf
                  have HM6 := Lib.hid hmk
                  have HG6 := Lib.hid (grow_trans HG5.out hg)
                  have HN6 := Lib.hid ((hg.block NB (blk_ltD HN5.out) (fun e => by have := HLT.out; have := HNB.out; injection e with e; omega)).trans HN5.out)
                  have HT6 := Lib.hid ((hg.block TB (blk_ltD HX5d.out) (fun e => by have := HM4.out.lt; have := HTB.out; injection e with e; omega)).trans HX5d.out)
                  have HRp6 := Lib.hid (show RepS .i64 (fun b => NB < b) w6 (f + 3) t6.args c6 from hr.mono (fun b hb => by have := blk_ltD HN5.out; omega) (fun _ _ _ _ hc => hc) (Nat.le_refl _))
                  have HRq6 := Lib.hid (show RepS .i64 (fun b => NB < b) w6 (f + 3) t4.args (.slice ca4 t4.args.length cc4) from HRp5.out.mono2 (fun b off u hb hc => ⟨hb.1, by rw [World.cell?_of_block (a := ⟨b, off, none⟩) (hg.block b (World.block_lt_of_cell? wd ⟨b, off, none⟩ hc) (fun e => by have := HLT.out; have := HNB.out; have := hb.1; injection e with e; omega))]; exact hc⟩) (Nat.le_refl _))
                  obtain ⟨ca6, cc6, hsh⟩ := hr.shape
                  dsimp only at hsh
                  subst hsh
                  clear hf hr hmk hg HCR
                  unfold agg
                  try go_wp2_with fail
                  refine hK.out _ _ (fun _ => (HKT.out _ HT6.out)) ?_
                  clear hK K
                  (try simp only [ptS, stA, st0, stS])
                  refine wpAnyP_ready (rs := [7]) (by kernel_rfl) (by simp) ?_
                  refine (AllReadyP.cons (by simp only [opA, opS, op0]; exact rfl) (fun K hK => ?_) AllReadyP.nil)
                  rw [if_pos (by kernel_rfl)]
                  have HA7 := Lib.hid (more_allocD w6 (.cells #[.int .i64 t4.op, .string t4.name, .int .i64 t4.n, .slice ca4 t4.args.length cc4, .int .i64 t6.op, .string t6.name, .int .i64 t6.n, .slice ca6 t6.args.length cc6] 36))
                  have HB7 := Lib.hid (alloc_last w6 (.cells #[.int .i64 t4.op, .string t4.name, .int .i64 t4.n, .slice ca4 t4.args.length cc4, .int .i64 t6.op, .string t6.name, .int .i64 t6.n, .slice ca6 t6.args.length cc6] 36))
                  obtain ⟨B7, HE7⟩ : ∃ B, Hid (B = w6.heap.size) := ⟨_, Lib.hid rfl⟩
                  go_simp
                  rw [← HE7.out] at HB7 ⊢
                  generalize w6.alloc (.cells #[.int .i64 t4.op, .string t4.name, .int .i64 t4.n, .slice ca4 t4.args.length cc4, .int .i64 t6.op, .string t6.name, .int .i64 t6.n, .slice ca6 t6.args.length cc6] 36) = w7 at *
                  have HM7 := Lib.hid (HM6.out.more HA7.out)
                  have HG7 := Lib.hid (grow_trans HG6.out (grow_more HA7.out))
                  have HN7 := Lib.hid ((HA7.out.block (blk_ltD HN6.out)).trans HN6.out)
                  have HT7 := Lib.hid ((HA7.out.block (blk_ltD HT6.out)).trans HT6.out)
                  have HRQ := Lib.hid (rep2D (S := fun b => NB < b) HB7.out (by rw [HE7.out]; exact blk_ltD HN6.out) HFl4.out (HRq6.out.mono (fun _ k => k) (fun _ _ _ _ hc => HA7.out.cell hc) (Nat.le_refl _)) HFl6.out (HRp6.out.mono (fun _ k => k) (fun _ _ _ _ hc => HA7.out.cell hc) (Nat.le_refl _)))
                  refine hK.out _ _ (fun _ => (HKT.out _ HT7.out)) ?_
                  clear hK K
                  (try simp only [ptS, stA, st0, stS])
                  refine tkS (i := 8) (v := ?_) (by simp only [opA, opS, op0]; exact rfl) (by kernel_rfl) (by kernel_rfl) (HKT.out _ HT7.out) ?_ ?_
                  rotate_left
                  · intro w hS
                    (try dsimp only at hS); first | (go_simp; done) | (go_simp; with_reducible rfl)
                  (try simp only [ptS, stA, st0, stS])
                  refine wpAnyP_ready (rs := [9]) (by kernel_rfl) (by simp) ?_
                  refine (AllReadyP.cons (by simp only [opA, opS, op0]; exact rfl) (fun K hK => ?_) AllReadyP.nil)
                  rw [if_pos (by kernel_rfl)]
                  have n0 : w7.cell? ⟨NB, 0, none⟩ = some (.int .i64 0) := by simp [World.cell?, HN7.out]
                  have f0 := thaw HN7.out 0
                  have n1 : w7.cell? ⟨NB, 1, none⟩ = some (.string ⟨#[]⟩) := by simp [World.cell?, HN7.out]
                  have f1 := thaw HN7.out 1
                  have n2 : w7.cell? ⟨NB, 2, none⟩ = some (.int .i64 0) := by simp [World.cell?, HN7.out]
                  have f2 := thaw HN7.out 2
                  have n3 : w7.cell? ⟨NB, 3, none⟩ = some (.slice none 0 0) := by simp [World.cell?, HN7.out]
                  have f3 := thaw HN7.out 3
                  have hbn := cell_lt n0
                  go_simp
                  refine hK.out _ _ (gone (by kernel_rfl)) ?_
                  clear hK K
                  (try simp only [ptN])
                  refine wpAnyP_done (by kernel_rfl) ?_ _
                  go_wp2_with fail
                  have HW := set4D HN7.out (.int .i64 (16 + 6)) (.string ⟨#[]⟩) (.int .i64 0) (.slice (some ⟨B7, 0, none⟩) 2 2)
                  refine bodyPost_ret (v := .agg #[.int .i64 (16 + 6), .string ⟨#[]⟩, .int .i64 0, .slice (some ⟨B7, 0, none⟩) 2 2]) (results_cell_row Try.results154 _ _ NB 36 _ (0, 0) _ rfl HW Try.underlying36 rfl (by kernel_rfl)) rfl ?_
                  rw [← HNUM.out]
                  exact exp_fin HNB.out HLT.out HG7.out HM7.out HN7.out (flds_small (by omega) (by omega) (by omega) (by omega) (by decide) (by simp)) (repUp HRQ.out (by omega))
                · skip
                  have HCR := Lib.hid (IH.out MB d prm left (dp + 1) l1 w2 HM2.out HD.out HFG.out HFP.out.1 HFP.out.2.1 HFP.out.2.2)
                  obtain ⟨t4, l4, hR⟩ : ∃ t r, truF d prm f (dp + 1) l1 = (t, r) := ⟨_, _, rfl⟩
                  rw [hR] at HCR HNUM
                  dsimp only at HNUM
                  clear hR
                  go_wp2_with fail
                  refine HCR.out.mono ?_
                  rintro e w4 ⟨c4, rfl, hf, hr, hmk, hg⟩
                  have HFl4 := Lib.hid hf
                  have HRp4 := Lib.hid hr
                  have HM4 := Lib.hid hmk
                  have HG4 := Lib.hid (grow_trans HG2.out hg)
                  have HGl4 := Lib.hid hg
                  have HN4 := Lib.hid ((hg.block NB (blk_ltD HN2.out) (fun e => by have := HLT.out; have := HNB.out; injection e with e; omega)).trans HN2.out)
                  obtain ⟨ca4, cc4, hsh⟩ := hr.shape
                  dsimp only at hsh
                  subst hsh
                  clear hf hr hmk hg HCR
                  unfold agg
                  have HA5 := Lib.hid (more_allocD w4 (.cells #[.int .i64 t4.op, .string t4.name, .int .i64 t4.n, .slice ca4 t4.args.length cc4] 36))
                  have HX5 := Lib.hid (alloc_last w4 (.cells #[.int .i64 t4.op, .string t4.name, .int .i64 t4.n, .slice ca4 t4.args.length cc4] 36))
                  go_upto_region 14 with fail
                  generalize w4.alloc (.cells #[.int .i64 t4.op, .string t4.name, .int .i64 t4.n, .slice ca4 t4.args.length cc4] 36) = w5 at *
                  obtain ⟨TB, HTB⟩ : ∃ B, Hid (B = w4.heap.size) := ⟨_, Lib.hid rfl⟩
                  rw [← HTB.out] at HX5 ⊢
                  have HM5 := Lib.hid (HM4.out.more (more_trans HA5.out (more_drew w5)))
                  have HG5 := Lib.hid (grow_trans HG4.out (grow_more (more_trans HA5.out (more_drew w5))))
                  have HN5 := Lib.hid (show w5.drew.heap[NB]? = _ from (HA5.out.block (blk_ltD HN4.out)).trans HN4.out)
                  have HX5d := Lib.hid (show w5.drew.heap[TB]? = _ from HX5.out)
                  have HRp5 := Lib.hid (show RepS .i64 (fun b => NB < b ∧ b < TB) w5.drew (f + 3) t4.args (.slice ca4 t4.args.length cc4) from HRp4.out.mono2 (fun b off u hb hc => ⟨⟨by have := blk_ltD HNP.out; omega, by have h8 : b < w4.heap.size := World.block_lt_of_cell? w4 ⟨b, off, none⟩ hc; have := HTB.out; omega⟩, (more_trans HA5.out (more_drew w5)).cell hc⟩) (Nat.le_refl _))
                  have HKT := Lib.hid (show ∀ W : World, W.heap[TB]? = some (.cells #[.int .i64 t4.op, .string t4.name, .int .i64 t4.n, .slice ca4 t4.args.length cc4] 36) → (W.cell? ⟨TB, 0, none⟩ = some (.int .i64 t4.op) ∧ W.cell? ⟨TB, 1, none⟩ = some (.string t4.name) ∧ W.cell? ⟨TB, 2, none⟩ = some (.int .i64 t4.n) ∧ W.cell? ⟨TB, 3, none⟩ = some (.slice ca4 t4.args.length cc4)) from fun W h => ⟨by simp [World.cell?, h], by simp [World.cell?, h], by simp [World.cell?, h], by simp [World.cell?, h]⟩)
                  have hbt := blk_ltD HX5d.out
                  have hwr : IntKind.i64.wrap (dp + 1) = dp + 1 := by rw [IntKind.wrap_i64]; omega
                  refine wp_region_heldP (S := fun W => W.cell? ⟨TB, 0, none⟩ = some (.int .i64 t4.op) ∧ W.cell? ⟨TB, 1, none⟩ = some (.string t4.name) ∧ W.cell? ⟨TB, 2, none⟩ = some (.int .i64 t4.n) ∧ W.cell? ⟨TB, 3, none⟩ = some (.slice ca4 t4.args.length cc4)) 9 (by kernel_rfl) ?_
                  generalize w5.drew = wd at *
                  refine tkS (i := 0) (v := ?_) (by simp only [opA, op0]; exact rfl) (by kernel_rfl) (by kernel_rfl) (HKT.out _ HX5d.out) ?_ ?_
                  rotate_left
                  · intro w hS
                    (try dsimp only at hS); first | (go_simp; done) | (go_simp; with_reducible rfl)
                  (try simp only [ptS, stA, st0, stS])
                  refine tkS (i := 1) (v := ?_) (by simp only [opA, opS, op0]; exact rfl) (by kernel_rfl) (by kernel_rfl) (HKT.out _ HX5d.out) ?_ ?_
                  rotate_left
                  · intro w hS
                    (try dsimp only at hS); first | (go_simp; done) | (go_simp; with_reducible rfl)
                  (try simp only [ptS, stA, st0, stS])
                  refine tkS (i := 2) (v := ?_) (by simp only [opA, opS, op0]; exact rfl) (by kernel_rfl) (by kernel_rfl) (HKT.out _ HX5d.out) ?_ ?_
                  rotate_left
                  · intro w hS
                    (try dsimp only at hS); first | (go_simp; done) | (go_simp; with_reducible rfl)
                  (try simp only [ptS, stA, st0, stS])
                  refine tkS (i := 3) (v := ?_) (by simp only [opA, opS, op0]; exact rfl) (by kernel_rfl) (by kernel_rfl) (HKT.out _ HX5d.out) ?_ ?_
                  rotate_left
                  · intro w hS
                    (try dsimp only at hS); first | (go_simp; done) | (go_simp; with_reducible rfl)
                  (try simp only [ptS, stA, st0, stS])
                  refine tkS (i := 4) (v := ?_) (by simp only [opA, opS, op0]; exact rfl) (by kernel_rfl) (by kernel_rfl) (HKT.out _ HX5d.out) ?_ ?_
                  rotate_left
                  · intro w hS
                    (try dsimp only at hS); first | (go_simp; done) | (go_simp; with_reducible rfl)
                  (try simp only [ptS, stA, st0, stS])
                  refine tkS (i := 5) (v := ?_) (by simp only [opA, opS, op0]; exact rfl) (by kernel_rfl) (by kernel_rfl) (HKT.out _ HX5d.out) ?_ ?_
                  rotate_left
                  · intro w hS
                    (try dsimp only at hS); first | (go_simp; done) | (go_simp; with_reducible rfl)
                  (try simp only [ptS, stA, st0, stS])
                  refine wpAnyP_ready (rs := [6]) (by kernel_rfl) (by simp) ?_
                  refine (AllReadyP.cons (by simp only [opA, opS, op0]; exact rfl) (fun K hK => ?_) AllReadyP.nil)
                  rw [if_pos (by kernel_rfl)]
                  have HCR := Lib.hid (IH.out MB d prm left (dp + 1) l4 wd HM5.out HD.out HFG.out HFP.out.1 HFP.out.2.1 HFP.out.2.2)
                  obtain ⟨t6, l6, hR⟩ : ∃ t r, truF d prm f (dp + 1) l4 = (t, r) := ⟨_, _, rfl⟩
                  rw [hR] at HCR HNUM
                  dsimp only at HNUM
                  clear hR
                  go_simp
                  refine HCR.out.mono ?_
                  rintro e w6 ⟨c6, rfl, hf, hr, hmk, hg⟩
                  have HFl6 := Lib.hid hf
                  have HM6 := Lib.hid hmk
                  have HG6 := Lib.hid (grow_trans HG5.out hg)
                  have HN6 := Lib.hid ((hg.block NB (blk_ltD HN5.out) (fun e => by have := HLT.out; have := HNB.out; injection e with e; omega)).trans HN5.out)
                  have HT6 := Lib.hid ((hg.block TB (blk_ltD HX5d.out) (fun e => by have := HM4.out.lt; have := HTB.out; injection e with e; omega)).trans HX5d.out)
                  have HRp6 := Lib.hid (show RepS .i64 (fun b => NB < b) w6 (f + 3) t6.args c6 from hr.mono (fun b hb => by have := blk_ltD HN5.out; omega) (fun _ _ _ _ hc => hc) (Nat.le_refl _))
                  have HRq6 := Lib.hid (show RepS .i64 (fun b => NB < b) w6 (f + 3) t4.args (.slice ca4 t4.args.length cc4) from HRp5.out.mono2 (fun b off u hb hc => ⟨hb.1, by rw [World.cell?_of_block (a := ⟨b, off, none⟩) (hg.block b (World.block_lt_of_cell? wd ⟨b, off, none⟩ hc) (fun e => by have := HLT.out; have := HNB.out; have := hb.1; injection e with e; omega))]; exact hc⟩) (Nat.le_refl _))
                  obtain ⟨ca6, cc6, hsh⟩ := hr.shape
                  dsimp only at hsh
                  subst hsh
                  clear hf hr hmk hg HCR
                  unfold agg
                  try go_wp2_with fail
                  refine hK.out _ _ (fun _ => (HKT.out _ HT6.out)) ?_
                  clear hK K
                  (try simp only [ptS, stA, st0, stS])
                  refine wpAnyP_ready (rs := [7]) (by kernel_rfl) (by simp) ?_
                  refine (AllReadyP.cons (by simp only [opA, opS, op0]; exact rfl) (fun K hK => ?_) AllReadyP.nil)
                  rw [if_pos (by kernel_rfl)]
                  have HA7 := Lib.hid (more_allocD w6 (.cells #[.int .i64 t4.op, .string t4.name, .int .i64 t4.n, .slice ca4 t4.args.length cc4, .int .i64 t6.op, .string t6.name, .int .i64 t6.n, .slice ca6 t6.args.length cc6] 36))
                  have HB7 := Lib.hid (alloc_last w6 (.cells #[.int .i64 t4.op, .string t4.name, .int .i64 t4.n, .slice ca4 t4.args.length cc4, .int .i64 t6.op, .string t6.name, .int .i64 t6.n, .slice ca6 t6.args.length cc6] 36))
                  obtain ⟨B7, HE7⟩ : ∃ B, Hid (B = w6.heap.size) := ⟨_, Lib.hid rfl⟩
                  go_simp
                  rw [← HE7.out] at HB7 ⊢
                  generalize w6.alloc (.cells #[.int .i64 t4.op, .string t4.name, .int .i64 t4.n, .slice ca4 t4.args.length cc4, .int .i64 t6.op, .string t6.name, .int .i64 t6.n, .slice ca6 t6.args.length cc6] 36) = w7 at *
                  have HM7 := Lib.hid (HM6.out.more HA7.out)
                  have HG7 := Lib.hid (grow_trans HG6.out (grow_more HA7.out))
                  have HN7 := Lib.hid ((HA7.out.block (blk_ltD HN6.out)).trans HN6.out)
                  have HT7 := Lib.hid ((HA7.out.block (blk_ltD HT6.out)).trans HT6.out)
                  have HRQ := Lib.hid (rep2D (S := fun b => NB < b) HB7.out (by rw [HE7.out]; exact blk_ltD HN6.out) HFl4.out (HRq6.out.mono (fun _ k => k) (fun _ _ _ _ hc => HA7.out.cell hc) (Nat.le_refl _)) HFl6.out (HRp6.out.mono (fun _ k => k) (fun _ _ _ _ hc => HA7.out.cell hc) (Nat.le_refl _)))
                  refine hK.out _ _ (fun _ => (HKT.out _ HT7.out)) ?_
                  clear hK K
                  (try simp only [ptS, stA, st0, stS])
                  refine tkS (i := 8) (v := ?_) (by simp only [opA, opS, op0]; exact rfl) (by kernel_rfl) (by kernel_rfl) (HKT.out _ HT7.out) ?_ ?_
                  rotate_left
                  · intro w hS
                    (try dsimp only at hS); first | (go_simp; done) | (go_simp; with_reducible rfl)
                  (try simp only [ptS, stA, st0, stS])
                  refine wpAnyP_ready (rs := [9]) (by kernel_rfl) (by simp) ?_
                  refine (AllReadyP.cons (by simp only [opA, opS, op0]; exact rfl) (fun K hK => ?_) AllReadyP.nil)
                  rw [if_pos (by kernel_rfl)]
                  have n0 : w7.cell? ⟨NB, 0, none⟩ = some (.int .i64 0) := by simp [World.cell?, HN7.out]
                  have f0 := thaw HN7.out 0
                  have n1 : w7.cell? ⟨NB, 1, none⟩ = some (.string ⟨#[]⟩) := by simp [World.cell?, HN7.out]
                  have f1 := thaw HN7.out 1
                  have n2 : w7.cell? ⟨NB, 2, none⟩ = some (.int .i64 0) := by simp [World.cell?, HN7.out]
                  have f2 := thaw HN7.out 2
                  have n3 : w7.cell? ⟨NB, 3, none⟩ = some (.slice none 0 0) := by simp [World.cell?, HN7.out]
                  have f3 := thaw HN7.out 3
                  have hbn := cell_lt n0
                  go_simp
                  refine hK.out _ _ (gone (by kernel_rfl)) ?_
                  clear hK K
                  (try simp only [ptN])
                  refine wpAnyP_done (by kernel_rfl) ?_ _
                  go_wp2_with fail
                  have HW := set4D HN7.out (.int .i64 (16 + 7)) (.string ⟨#[]⟩) (.int .i64 0) (.slice (some ⟨B7, 0, none⟩) 2 2)
                  refine bodyPost_ret (v := .agg #[.int .i64 (16 + 7), .string ⟨#[]⟩, .int .i64 0, .slice (some ⟨B7, 0, none⟩) 2 2]) (results_cell_row Try.results154 _ _ NB 36 _ (0, 0) _ rfl HW Try.underlying36 rfl (by kernel_rfl)) rfl ?_
                  rw [← HNUM.out]
                  exact exp_fin HNB.out HLT.out HG7.out HM7.out HN7.out (flds_small (by omega) (by omega) (by omega) (by omega) (by decide) (by simp)) (repUp HRQ.out (by omega))
              · rw [if_neg hG] at HNUM
                have HCB := Lib.hid (next_any MB d prm left 6 l1 w2 HM2.out (by omega) (by omega))
                have HRB := Lib.hid (nextB_rng l1 (n := 6) (by omega))
                obtain ⟨v, l2, hvl⟩ : ∃ v l2, nextB l1 6 = (v, l2) := ⟨_, _, rfl⟩
                rw [hvl] at HCB HRB HNUM
                dsimp only at HCB HRB HNUM
                clear hvl
                have hv0 := HRB.out.1
                have hv9 := HRB.out.2
                have hwv : IntKind.i64.wrap (16 + v) = 16 + v := by rw [IntKind.wrap_i64]; omega
                have hH : ((1 < dp ∧ k ≤ 4) ∨ dp ≤ 1) ∧ (k = 2 ∧ d.flags ≤ 0 ∨ k = 3 ∧ d.tables ≤ 0 ∨ k = 4 ∨ k = 8 ∨ k = 9) := by omega
                obtain ⟨hH1, hH2⟩ := hH
                clear hB hC hD hE hG hA hk1'
                rcases hH2 with ⟨rfl, ht⟩ | ⟨rfl, ht⟩ | rfl | rfl | rfl
                · rcases hH1 with ⟨hdp, hk4⟩ | hdp
                  · skip
                    have htl : decide (0 < d.flags) = false := decide_eq_false (by omega)
                    have hdb := Lib.hid HF.out
                    go_wp2_with fail
                    refine HCB.out.mono ?_
                    rintro e w3 ⟨rfl, hmk, hg⟩
                    have HM3 := Lib.hid hmk
                    have HG3 := Lib.hid (grow_trans HG2.out hg)
                    have HN3 := Lib.hid ((hg.block NB (blk_ltD HN2.out) (fun e => by have := HLT.out; have := HNB.out; injection e with e; omega)).trans HN2.out)
                    clear hmk hg
                    have HNP := Lib.hid HN3.out
                    have HCR := Lib.hid (number_any 3 MB d prm left 1 l2 w3 HM3.out HD.out (by omega) (by omega) (by omega))
                    obtain ⟨t4, l4, hR⟩ : ∃ t r, numF d prm 3 1 l2 = (t, r) := ⟨_, _, rfl⟩
                    rw [hR] at HCR HNUM
                    dsimp only at HNUM
                    clear hR
                    go_wp2_with fail
                    refine HCR.out.mono ?_
                    rintro e w4 ⟨c4, rfl, hf, hr, hmk, hg⟩
                    have HFl4 := Lib.hid hf
                    have HRp4 := Lib.hid hr
                    have HM4 := Lib.hid hmk
                    have HG4 := Lib.hid (grow_trans HG3.out hg)
                    have HGl4 := Lib.hid hg
                    have HN4 := Lib.hid ((hg.block NB (blk_ltD HN3.out) (fun e => by have := HLT.out; have := HNB.out; injection e with e; omega)).trans HN3.out)
                    obtain ⟨ca4, cc4, hsh⟩ := hr.shape
                    dsimp only at hsh
                    subst hsh
                    clear hf hr hmk hg HCR
                    unfold agg
                    have hdp9 : dp ≤ 3 := by have := HF.out; omega
                    have HA5 := Lib.hid (more_allocD w4 (.cells #[.int .i64 t4.op, .string t4.name, .int .i64 t4.n, .slice ca4 t4.args.length cc4] 36))
                    have HX5 := Lib.hid (alloc_last w4 (.cells #[.int .i64 t4.op, .string t4.name, .int .i64 t4.n, .slice ca4 t4.args.length cc4] 36))
                    go_upto_region 17 with fail
                    generalize w4.alloc (.cells #[.int .i64 t4.op, .string t4.name, .int .i64 t4.n, .slice ca4 t4.args.length cc4] 36) = w5 at *
                    obtain ⟨TB, HTB⟩ : ∃ B, Hid (B = w4.heap.size) := ⟨_, Lib.hid rfl⟩
                    rw [← HTB.out] at HX5 ⊢
                    have HM5 := Lib.hid (HM4.out.more (more_trans HA5.out (more_drew w5)))
                    have HG5 := Lib.hid (grow_trans HG4.out (grow_more (more_trans HA5.out (more_drew w5))))
                    have HN5 := Lib.hid (show w5.drew.heap[NB]? = _ from (HA5.out.block (blk_ltD HN4.out)).trans HN4.out)
                    have HX5d := Lib.hid (show w5.drew.heap[TB]? = _ from HX5.out)
                    have HRp5 := Lib.hid (show RepS .i64 (fun b => NB < b ∧ b < TB) w5.drew 3 t4.args (.slice ca4 t4.args.length cc4) from HRp4.out.mono2 (fun b off u hb hc => ⟨⟨by have := blk_ltD HNP.out; omega, by have h8 : b < w4.heap.size := World.block_lt_of_cell? w4 ⟨b, off, none⟩ hc; have := HTB.out; omega⟩, (more_trans HA5.out (more_drew w5)).cell hc⟩) (Nat.le_refl _))
                    have HKT := Lib.hid (show ∀ W : World, W.heap[TB]? = some (.cells #[.int .i64 t4.op, .string t4.name, .int .i64 t4.n, .slice ca4 t4.args.length cc4] 36) → (W.cell? ⟨TB, 0, none⟩ = some (.int .i64 t4.op) ∧ W.cell? ⟨TB, 1, none⟩ = some (.string t4.name) ∧ W.cell? ⟨TB, 2, none⟩ = some (.int .i64 t4.n) ∧ W.cell? ⟨TB, 3, none⟩ = some (.slice ca4 t4.args.length cc4)) from fun W h => ⟨by simp [World.cell?, h], by simp [World.cell?, h], by simp [World.cell?, h], by simp [World.cell?, h]⟩)
                    have hbt := blk_ltD HX5d.out
                    have hwr : IntKind.i64.wrap (dp + 1) = dp + 1 := by rw [IntKind.wrap_i64]; omega
                    refine wp_region_heldP (S := fun W => W.cell? ⟨TB, 0, none⟩ = some (.int .i64 t4.op) ∧ W.cell? ⟨TB, 1, none⟩ = some (.string t4.name) ∧ W.cell? ⟨TB, 2, none⟩ = some (.int .i64 t4.n) ∧ W.cell? ⟨TB, 3, none⟩ = some (.slice ca4 t4.args.length cc4)) 6 (by kernel_rfl) ?_
                    generalize w5.drew = wd at *
                    refine tkS (i := 0) (v := ?_) (by simp only [opA, op0]; exact rfl) (by kernel_rfl) (by kernel_rfl) (HKT.out _ HX5d.out) ?_ ?_
                    rotate_left
                    · intro w hS
                      (try dsimp only at hS); first | (go_simp; done) | (go_simp; with_reducible rfl)
                    (try simp only [ptS, stA, st0, stS])
                    refine tkS (i := 1) (v := ?_) (by simp only [opA, opS, op0]; exact rfl) (by kernel_rfl) (by kernel_rfl) (HKT.out _ HX5d.out) ?_ ?_
                    rotate_left
                    · intro w hS
                      (try dsimp only at hS); first | (go_simp; done) | (go_simp; with_reducible rfl)
                    (try simp only [ptS, stA, st0, stS])
                    refine tkS (i := 2) (v := ?_) (by simp only [opA, opS, op0]; exact rfl) (by kernel_rfl) (by kernel_rfl) (HKT.out _ HX5d.out) ?_ ?_
                    rotate_left
                    · intro w hS
                      (try dsimp only at hS); first | (go_simp; done) | (go_simp; with_reducible rfl)
                    (try simp only [ptS, stA, st0, stS])
                    refine wpAnyP_ready (rs := [3]) (by kernel_rfl) (by simp) ?_
                    refine (AllReadyP.cons (by simp only [opA, opS, op0]; exact rfl) (fun K hK => ?_) AllReadyP.nil)
                    rw [if_pos (by kernel_rfl)]
                    have HCR := Lib.hid (number_any 3 MB d prm left 1 l4 wd HM5.out HD.out (by omega) (by omega) (by omega))
                    obtain ⟨t6, l6, hR⟩ : ∃ t r, numF d prm 3 1 l4 = (t, r) := ⟨_, _, rfl⟩
                    rw [hR] at HCR HNUM
                    dsimp only at HNUM
                    clear hR
                    go_simp
                    refine HCR.out.mono ?_
                    rintro e w6 ⟨c6, rfl, hf, hr, hmk, hg⟩
                    have HFl6 := Lib.hid hf
                    have HM6 := Lib.hid hmk
                    have HG6 := Lib.hid (grow_trans HG5.out hg)
                    have HN6 := Lib.hid ((hg.block NB (blk_ltD HN5.out) (fun e => by have := HLT.out; have := HNB.out; injection e with e; omega)).trans HN5.out)
                    have HT6 := Lib.hid ((hg.block TB (blk_ltD HX5d.out) (fun e => by have := HM4.out.lt; have := HTB.out; injection e with e; omega)).trans HX5d.out)
                    have HRp6 := Lib.hid (show RepS .i64 (fun b => NB < b) w6 3 t6.args c6 from hr.mono (fun b hb => by have := blk_ltD HN5.out; omega) (fun _ _ _ _ hc => hc) (Nat.le_refl _))
                    have HRq6 := Lib.hid (show RepS .i64 (fun b => NB < b) w6 3 t4.args (.slice ca4 t4.args.length cc4) from HRp5.out.mono2 (fun b off u hb hc => ⟨hb.1, by rw [World.cell?_of_block (a := ⟨b, off, none⟩) (hg.block b (World.block_lt_of_cell? wd ⟨b, off, none⟩ hc) (fun e => by have := HLT.out; have := HNB.out; have := hb.1; injection e with e; omega))]; exact hc⟩) (Nat.le_refl _))
                    obtain ⟨ca6, cc6, hsh⟩ := hr.shape
                    dsimp only at hsh
                    subst hsh
                    clear hf hr hmk hg HCR
                    unfold agg
                    try go_wp2_with fail
                    refine hK.out _ _ (fun _ => (HKT.out _ HT6.out)) ?_
                    clear hK K
                    (try simp only [ptS, stA, st0, stS])
                    refine wpAnyP_ready (rs := [4]) (by kernel_rfl) (by simp) ?_
                    refine (AllReadyP.cons (by simp only [opA, opS, op0]; exact rfl) (fun K hK => ?_) AllReadyP.nil)
                    rw [if_pos (by kernel_rfl)]
                    have HA7 := Lib.hid (more_allocD w6 (.cells #[.int .i64 t4.op, .string t4.name, .int .i64 t4.n, .slice ca4 t4.args.length cc4, .int .i64 t6.op, .string t6.name, .int .i64 t6.n, .slice ca6 t6.args.length cc6] 36))
                    have HB7 := Lib.hid (alloc_last w6 (.cells #[.int .i64 t4.op, .string t4.name, .int .i64 t4.n, .slice ca4 t4.args.length cc4, .int .i64 t6.op, .string t6.name, .int .i64 t6.n, .slice ca6 t6.args.length cc6] 36))
                    obtain ⟨B7, HE7⟩ : ∃ B, Hid (B = w6.heap.size) := ⟨_, Lib.hid rfl⟩
                    go_simp
                    rw [← HE7.out] at HB7 ⊢
                    generalize w6.alloc (.cells #[.int .i64 t4.op, .string t4.name, .int .i64 t4.n, .slice ca4 t4.args.length cc4, .int .i64 t6.op, .string t6.name, .int .i64 t6.n, .slice ca6 t6.args.length cc6] 36) = w7 at *
                    have HM7 := Lib.hid (HM6.out.more HA7.out)
                    have HG7 := Lib.hid (grow_trans HG6.out (grow_more HA7.out))
                    have HN7 := Lib.hid ((HA7.out.block (blk_ltD HN6.out)).trans HN6.out)
                    have HT7 := Lib.hid ((HA7.out.block (blk_ltD HT6.out)).trans HT6.out)
                    have HRQ := Lib.hid (rep2D (S := fun b => NB < b) HB7.out (by rw [HE7.out]; exact blk_ltD HN6.out) HFl4.out (HRq6.out.mono (fun _ k => k) (fun _ _ _ _ hc => HA7.out.cell hc) (Nat.le_refl _)) HFl6.out (HRp6.out.mono (fun _ k => k) (fun _ _ _ _ hc => HA7.out.cell hc) (Nat.le_refl _)))
                    refine hK.out _ _ (fun _ => (HKT.out _ HT7.out)) ?_
                    clear hK K
                    (try simp only [ptS, stA, st0, stS])
                    refine tkS (i := 5) (v := ?_) (by simp only [opA, opS, op0]; exact rfl) (by kernel_rfl) (by kernel_rfl) (HKT.out _ HT7.out) ?_ ?_
                    rotate_left
                    · intro w hS
                      (try dsimp only at hS); first | (go_simp; done) | (go_simp; with_reducible rfl)
                    (try simp only [ptS, stA, st0, stS])
                    refine wpAnyP_ready (rs := [6]) (by kernel_rfl) (by simp) ?_
                    refine (AllReadyP.cons (by simp only [opA, opS, op0]; exact rfl) (fun K hK => ?_) AllReadyP.nil)
                    rw [if_pos (by kernel_rfl)]
                    have n0 : w7.cell? ⟨NB, 0, none⟩ = some (.int .i64 0) := by simp [World.cell?, HN7.out]
                    have f0 := thaw HN7.out 0
                    have n1 : w7.cell? ⟨NB, 1, none⟩ = some (.string ⟨#[]⟩) := by simp [World.cell?, HN7.out]
                    have f1 := thaw HN7.out 1
                    have n2 : w7.cell? ⟨NB, 2, none⟩ = some (.int .i64 0) := by simp [World.cell?, HN7.out]
                    have f2 := thaw HN7.out 2
                    have n3 : w7.cell? ⟨NB, 3, none⟩ = some (.slice none 0 0) := by simp [World.cell?, HN7.out]
                    have f3 := thaw HN7.out 3
                    have hbn := cell_lt n0
                    go_simp
                    refine hK.out _ _ (gone (by kernel_rfl)) ?_
                    clear hK K
                    (try simp only [ptN])
                    refine wpAnyP_done (by kernel_rfl) ?_ _
                    go_wp2_with fail
                    have HW := set4D HN7.out (.int .i64 (16 + v)) (.string ⟨#[]⟩) (.int .i64 0) (.slice (some ⟨B7, 0, none⟩) 2 2)
                    refine bodyPost_ret (v := .agg #[.int .i64 (16 + v), .string ⟨#[]⟩, .int .i64 0, .slice (some ⟨B7, 0, none⟩) 2 2]) (results_cell_row Try.results154 _ _ NB 36 _ (0, 0) _ rfl HW Try.underlying36 rfl (by kernel_rfl)) rfl ?_
                    rw [← HNUM.out]
                    exact exp_fin HNB.out HLT.out HG7.out HM7.out HN7.out (flds_small (by omega) (by omega) (by omega) (by omega) (by decide) (by simp)) (repUp HRQ.out (by omega))
                  · skip
                    have htl : decide (0 < d.flags) = false := decide_eq_false (by omega)
                    have hdb := Lib.hid HF.out
                    go_wp2_with fail
                    refine HCB.out.mono ?_
                    rintro e w3 ⟨rfl, hmk, hg⟩
                    have HM3 := Lib.hid hmk
                    have HG3 := Lib.hid (grow_trans HG2.out hg)
                    have HN3 := Lib.hid ((hg.block NB (blk_ltD HN2.out) (fun e => by have := HLT.out; have := HNB.out; injection e with e; omega)).trans HN2.out)
                    clear hmk hg
                    have HNP := Lib.hid HN3.out
                    have HCR := Lib.hid (number_any 3 MB d prm left 1 l2 w3 HM3.out HD.out (by omega) (by omega) (by omega))
                    obtain ⟨t4, l4, hR⟩ : ∃ t r, numF d prm 3 1 l2 = (t, r) := ⟨_, _, rfl⟩
                    rw [hR] at HCR HNUM
                    dsimp only at HNUM
                    clear hR
                    go_wp2_with fail
                    refine HCR.out.mono ?_
                    rintro e w4 ⟨c4, rfl, hf, hr, hmk, hg⟩
                    have HFl4 := Lib.hid hf
                    have HRp4 := Lib.hid hr
                    have HM4 := Lib.hid hmk
                    have HG4 := Lib.hid (grow_trans HG3.out hg)
                    have HGl4 := Lib.hid hg
                    have HN4 := Lib.hid ((hg.block NB (blk_ltD HN3.out) (fun e => by have := HLT.out; have := HNB.out; injection e with e; omega)).trans HN3.out)
                    obtain ⟨ca4, cc4, hsh⟩ := hr.shape
                    dsimp only at hsh
                    subst hsh
                    clear hf hr hmk hg HCR
                    unfold agg
                    have hdp9 : dp ≤ 3 := by have := HF.out; omega
                    have HA5 := Lib.hid (more_allocD w4 (.cells #[.int .i64 t4.op, .string t4.name, .int .i64 t4.n, .slice ca4 t4.args.length cc4] 36))
                    have HX5 := Lib.hid (alloc_last w4 (.cells #[.int .i64 t4.op, .string t4.name, .int .i64 t4.n, .slice ca4 t4.args.length cc4] 36))
                    go_upto_region 17 with fail
                    generalize w4.alloc (.cells #[.int .i64 t4.op, .string t4.name, .int .i64 t4.n, .slice ca4 t4.args.length cc4] 36) = w5 at *
                    obtain ⟨TB, HTB⟩ : ∃ B, Hid (B = w4.heap.size) := ⟨_, Lib.hid rfl⟩
                    rw [← HTB.out] at HX5 ⊢
                    have HM5 := Lib.hid (HM4.out.more (more_trans HA5.out (more_drew w5)))
                    have HG5 := Lib.hid (grow_trans HG4.out (grow_more (more_trans HA5.out (more_drew w5))))
                    have HN5 := Lib.hid (show w5.drew.heap[NB]? = _ from (HA5.out.block (blk_ltD HN4.out)).trans HN4.out)
                    have HX5d := Lib.hid (show w5.drew.heap[TB]? = _ from HX5.out)
                    have HRp5 := Lib.hid (show RepS .i64 (fun b => NB < b ∧ b < TB) w5.drew 3 t4.args (.slice ca4 t4.args.length cc4) from HRp4.out.mono2 (fun b off u hb hc => ⟨⟨by have := blk_ltD HNP.out; omega, by have h8 : b < w4.heap.size := World.block_lt_of_cell? w4 ⟨b, off, none⟩ hc; have := HTB.out; omega⟩, (more_trans HA5.out (more_drew w5)).cell hc⟩) (Nat.le_refl _))
                    have HKT := Lib.hid (show ∀ W : World, W.heap[TB]? = some (.cells #[.int .i64 t4.op, .string t4.name, .int .i64 t4.n, .slice ca4 t4.args.length cc4] 36) → (W.cell? ⟨TB, 0, none⟩ = some (.int .i64 t4.op) ∧ W.cell? ⟨TB, 1, none⟩ = some (.string t4.name) ∧ W.cell? ⟨TB, 2, none⟩ = some (.int .i64 t4.n) ∧ W.cell? ⟨TB, 3, none⟩ = some (.slice ca4 t4.args.length cc4)) from fun W h => ⟨by simp [World.cell?, h], by simp [World.cell?, h], by simp [World.cell?, h], by simp [World.cell?, h]⟩)
                    have hbt := blk_ltD HX5d.out
                    have hwr : IntKind.i64.wrap (dp + 1) = dp + 1 := by rw [IntKind.wrap_i64]; omega
                    refine wp_region_heldP (S := fun W => W.cell? ⟨TB, 0, none⟩ = some (.int .i64 t4.op) ∧ W.cell? ⟨TB, 1, none⟩ = some (.string t4.name) ∧ W.cell? ⟨TB, 2, none⟩ = some (.int .i64 t4.n) ∧ W.cell? ⟨TB, 3, none⟩ = some (.slice ca4 t4.args.length cc4)) 6 (by kernel_rfl) ?_
                    generalize w5.drew = wd at *
                    refine tkS (i := 0) (v := ?_) (by simp only [opA, op0]; exact rfl) (by kernel_rfl) (by kernel_rfl) (HKT.out _ HX5d.out) ?_ ?_
                    rotate_left
                    · intro w hS
                      (try dsimp only at hS); first | (go_simp; done) | (go_simp; with_reducible rfl)
                    (try simp only [ptS, stA, st0, stS])
                    refine tkS (i := 1) (v := ?_) (by simp only [opA, opS, op0]; exact rfl) (by kernel_rfl) (by kernel_rfl) (HKT.out _ HX5d.out) ?_ ?_
                    rotate_left
                    · intro w hS
                      (try dsimp only at hS); first | (go_simp; done) | (go_simp; with_reducible rfl)
                    (try simp only [ptS, stA, st0, stS])
                    refine tkS (i := 2) (v := ?_) (by simp only [opA, opS, op0]; exact rfl) (by kernel_rfl) (by kernel_rfl) (HKT.out _ HX5d.out) ?_ ?_
                    rotate_left
                    · intro w hS
                      (try dsimp only at hS); first | (go_simp; done) | (go_simp; with_reducible rfl)
                    (try simp only [ptS, stA, st0, stS])
                    refine wpAnyP_ready (rs := [3]) (by kernel_rfl) (by simp) ?_
                    refine (AllReadyP.cons (by simp only [opA, opS, op0]; exact rfl) (fun K hK => ?_) AllReadyP.nil)
                    rw [if_pos (by kernel_rfl)]
                    have HCR := Lib.hid (number_any 3 MB d prm left 1 l4 wd HM5.out HD.out (by omega) (by omega) (by omega))
                    obtain ⟨t6, l6, hR⟩ : ∃ t r, numF d prm 3 1 l4 = (t, r) := ⟨_, _, rfl⟩
                    rw [hR] at HCR HNUM
                    dsimp only at HNUM
                    clear hR
                    go_simp
                    refine HCR.out.mono ?_
                    rintro e w6 ⟨c6, rfl, hf, hr, hmk, hg⟩
                    have HFl6 := Lib.hid hf
                    have HM6 := Lib.hid hmk
                    have HG6 := Lib.hid (grow_trans HG5.out hg)
                    have HN6 := Lib.hid ((hg.block NB (blk_ltD HN5.out) (fun e => by have := HLT.out; have := HNB.out; injection e with e; omega)).trans HN5.out)
                    have HT6 := Lib.hid ((hg.block TB (blk_ltD HX5d.out) (fun e => by have := HM4.out.lt; have := HTB.out; injection e with e; omega)).trans HX5d.out)
                    have HRp6 := Lib.hid (show RepS .i64 (fun b => NB < b) w6 3 t6.args c6 from hr.mono (fun b hb => by have := blk_ltD HN5.out; omega) (fun _ _ _ _ hc => hc) (Nat.le_refl _))
                    have HRq6 := Lib.hid (show RepS .i64 (fun b => NB < b) w6 3 t4.args (.slice ca4 t4.args.length cc4) from HRp5.out.mono2 (fun b off u hb hc => ⟨hb.1, by rw [World.cell?_of_block (a := ⟨b, off, none⟩) (hg.block b (World.block_lt_of_cell? wd ⟨b, off, none⟩ hc) (fun e => by have := HLT.out; have := HNB.out; have := hb.1; injection e with e; omega))]; exact hc⟩) (Nat.le_refl _))
                    obtain ⟨ca6, cc6, hsh⟩ := hr.shape
                    dsimp only at hsh
                    subst hsh
                    clear hf hr hmk hg HCR
                    unfold agg
                    try go_wp2_with fail
                    refine hK.out _ _ (fun _ => (HKT.out _ HT6.out)) ?_
                    clear hK K
                    (try simp only [ptS, stA, st0, stS])
                    refine wpAnyP_ready (rs := [4]) (by kernel_rfl) (by simp) ?_
                    refine (AllReadyP.cons (by simp only [opA, opS, op0]; exact rfl) (fun K hK => ?_) AllReadyP.nil)
                    rw [if_pos (by kernel_rfl)]
                    have HA7 := Lib.hid (more_allocD w6 (.cells #[.int .i64 t4.op, .string t4.name, .int .i64 t4.n, .slice ca4 t4.args.length cc4, .int .i64 t6.op, .string t6.name, .int .i64 t6.n, .slice ca6 t6.args.length cc6] 36))
                    have HB7 := Lib.hid (alloc_last w6 (.cells #[.int .i64 t4.op, .string t4.name, .int .i64 t4.n, .slice ca4 t4.args.length cc4, .int .i64 t6.op, .string t6.name, .int .i64 t6.n, .slice ca6 t6.args.length cc6] 36))
                    obtain ⟨B7, HE7⟩ : ∃ B, Hid (B = w6.heap.size) := ⟨_, Lib.hid rfl⟩
                    go_simp
                    rw [← HE7.out] at HB7 ⊢
                    generalize w6.alloc (.cells #[.int .i64 t4.op, .string t4.name, .int .i64 t4.n, .slice ca4 t4.args.length cc4, .int .i64 t6.op, .string t6.name, .int .i64 t6.n, .slice ca6 t6.args.length cc6] 36) = w7 at *
                    have HM7 := Lib.hid (HM6.out.more HA7.out)
                    have HG7 := Lib.hid (grow_trans HG6.out (grow_more HA7.out))
                    have HN7 := Lib.hid ((HA7.out.block (blk_ltD HN6.out)).trans HN6.out)
                    have HT7 := Lib.hid ((HA7.out.block (blk_ltD HT6.out)).trans HT6.out)
                    have HRQ := Lib.hid (rep2D (S := fun b => NB < b) HB7.out (by rw [HE7.out]; exact blk_ltD HN6.out) HFl4.out (HRq6.out.mono (fun _ k => k) (fun _ _ _ _ hc => HA7.out.cell hc) (Nat.le_refl _)) HFl6.out (HRp6.out.mono (fun _ k => k) (fun _ _ _ _ hc => HA7.out.cell hc) (Nat.le_refl _)))
                    refine hK.out _ _ (fun _ => (HKT.out _ HT7.out)) ?_
                    clear hK K
                    (try simp only [ptS, stA, st0, stS])
                    refine tkS (i := 5) (v := ?_) (by simp only [opA, opS, op0]; exact rfl) (by kernel_rfl) (by kernel_rfl) (HKT.out _ HT7.out) ?_ ?_
                    rotate_left
                    · intro w hS
                      (try dsimp only at hS); first | (go_simp; done) | (go_simp; with_reducible rfl)
                    (try simp only [ptS, stA, st0, stS])
                    refine wpAnyP_ready (rs := [6]) (by kernel_rfl) (by simp) ?_
                    refine (AllReadyP.cons (by simp only [opA, opS, op0]; exact rfl) (fun K hK => ?_) AllReadyP.nil)
                    rw [if_pos (by kernel_rfl)]
                    have n0 : w7.cell? ⟨NB, 0, none⟩ = some (.int .i64 0) := by simp [World.cell?, HN7.out]
                    have f0 := thaw HN7.out 0
                    have n1 : w7.cell? ⟨NB, 1, none⟩ = some (.string ⟨#[]⟩) := by simp [World.cell?, HN7.out]
                    have f1 := thaw HN7.out 1
                    have n2 : w7.cell? ⟨NB, 2, none⟩ = some (.int .i64 0) := by simp [World.cell?, HN7.out]
                    have f2 := thaw HN7.out 2
                    have n3 : w7.cell? ⟨NB, 3, none⟩ = some (.slice none 0 0) := by simp [World.cell?, HN7.out]
                    have f3 := thaw HN7.out 3
                    have hbn := cell_lt n0
                    go_simp
                    refine hK.out _ _ (gone (by kernel_rfl)) ?_
                    clear hK K
                    (try simp only [ptN])
                    refine wpAnyP_done (by kernel_rfl) ?_ _
                    go_wp2_with fail
                    have HW := set4D HN7.out (.int .i64 (16 + v)) (.string ⟨#[]⟩) (.int .i64 0) (.slice (some ⟨B7, 0, none⟩) 2 2)
                    refine bodyPost_ret (v := .agg #[.int .i64 (16 + v), .string ⟨#[]⟩, .int .i64 0, .slice (some ⟨B7, 0, none⟩) 2 2]) (results_cell_row Try.results154 _ _ NB 36 _ (0, 0) _ rfl HW Try.underlying36 rfl (by kernel_rfl)) rfl ?_
                    rw [← HNUM.out]
                    exact exp_fin HNB.out HLT.out HG7.out HM7.out HN7.out (flds_small (by omega) (by omega) (by omega) (by omega) (by decide) (by simp)) (repUp HRQ.out (by omega))
                · rcases hH1 with ⟨hdp, hk4⟩ | hdp
                  · skip
                    have htl : decide (0 < d.tables) = false := decide_eq_false (by omega)
                    have hdb := Lib.hid HF.out
                    go_wp2_with fail
                    refine HCB.out.mono ?_
                    rintro e w3 ⟨rfl, hmk, hg⟩
                    have HM3 := Lib.hid hmk
                    have HG3 := Lib.hid (grow_trans HG2.out hg)
                    have HN3 := Lib.hid ((hg.block NB (blk_ltD HN2.out) (fun e => by have := HLT.out; have := HNB.out; injection e with e; omega)).trans HN2.out)
                    clear hmk hg
                    have HNP := Lib.hid HN3.out
                    have HCR := Lib.hid (number_any 3 MB d prm left 1 l2 w3 HM3.out HD.out (by omega) (by omega) (by omega))
                    obtain ⟨t4, l4, hR⟩ : ∃ t r, numF d prm 3 1 l2 = (t, r) := ⟨_, _, rfl⟩
                    rw [hR] at HCR HNUM
                    dsimp only at HNUM
                    clear hR
                    go_wp2_with fail
                    refine HCR.out.mono ?_
                    rintro e w4 ⟨c4, rfl, hf, hr, hmk, hg⟩
                    have HFl4 := Lib.hid hf
                    have HRp4 := Lib.hid hr
                    have HM4 := Lib.hid hmk
                    have HG4 := Lib.hid (grow_trans HG3.out hg)
                    have HGl4 := Lib.hid hg
                    have HN4 := Lib.hid ((hg.block NB (blk_ltD HN3.out) (fun e => by have := HLT.out; have := HNB.out; injection e with e; omega)).trans HN3.out)
                    obtain ⟨ca4, cc4, hsh⟩ := hr.shape
                    dsimp only at hsh
                    subst hsh
                    clear hf hr hmk hg HCR
                    unfold agg
                    have hdp9 : dp ≤ 3 := by have := HF.out; omega
                    have HA5 := Lib.hid (more_allocD w4 (.cells #[.int .i64 t4.op, .string t4.name, .int .i64 t4.n, .slice ca4 t4.args.length cc4] 36))
                    have HX5 := Lib.hid (alloc_last w4 (.cells #[.int .i64 t4.op, .string t4.name, .int .i64 t4.n, .slice ca4 t4.args.length cc4] 36))
                    go_upto_region 17 with fail
                    generalize w4.alloc (.cells #[.int .i64 t4.op, .string t4.name, .int .i64 t4.n, .slice ca4 t4.args.length cc4] 36) = w5 at *
                    obtain ⟨TB, HTB⟩ : ∃ B, Hid (B = w4.heap.size) := ⟨_, Lib.hid rfl⟩
                    rw [← HTB.out] at HX5 ⊢
                    have HM5 := Lib.hid (HM4.out.more (more_trans HA5.out (more_drew w5)))
                    have HG5 := Lib.hid (grow_trans HG4.out (grow_more (more_trans HA5.out (more_drew w5))))
                    have HN5 := Lib.hid (show w5.drew.heap[NB]? = _ from (HA5.out.block (blk_ltD HN4.out)).trans HN4.out)
                    have HX5d := Lib.hid (show w5.drew.heap[TB]? = _ from HX5.out)
                    have HRp5 := Lib.hid (show RepS .i64 (fun b => NB < b ∧ b < TB) w5.drew 3 t4.args (.slice ca4 t4.args.length cc4) from HRp4.out.mono2 (fun b off u hb hc => ⟨⟨by have := blk_ltD HNP.out; omega, by have h8 : b < w4.heap.size := World.block_lt_of_cell? w4 ⟨b, off, none⟩ hc; have := HTB.out; omega⟩, (more_trans HA5.out (more_drew w5)).cell hc⟩) (Nat.le_refl _))
                    have HKT := Lib.hid (show ∀ W : World, W.heap[TB]? = some (.cells #[.int .i64 t4.op, .string t4.name, .int .i64 t4.n, .slice ca4 t4.args.length cc4] 36) → (W.cell? ⟨TB, 0, none⟩ = some (.int .i64 t4.op) ∧ W.cell? ⟨TB, 1, none⟩ = some (.string t4.name) ∧ W.cell? ⟨TB, 2, none⟩ = some (.int .i64 t4.n) ∧ W.cell? ⟨TB, 3, none⟩ = some (.slice ca4 t4.args.length cc4)) from fun W h => ⟨by simp [World.cell?, h], by simp [World.cell?, h], by simp [World.cell?, h], by simp [World.cell?, h]⟩)
                    have hbt := blk_ltD HX5d.out
                    have hwr : IntKind.i64.wrap (dp + 1) = dp + 1 := by rw [IntKind.wrap_i64]; omega
                    refine wp_region_heldP (S := fun W => W.cell? ⟨TB, 0, none⟩ = some (.int .i64 t4.op) ∧ W.cell? ⟨TB, 1, none⟩ = some (.string t4.name) ∧ W.cell? ⟨TB, 2, none⟩ = some (.int .i64 t4.n) ∧ W.cell? ⟨TB, 3, none⟩ = some (.slice ca4 t4.args.length cc4)) 6 (by kernel_rfl) ?_
                    generalize w5.drew = wd at *
                    refine tkS (i := 0) (v := ?_) (by simp only [opA, op0]; exact rfl) (by kernel_rfl) (by kernel_rfl) (HKT.out _ HX5d.out) ?_ ?_
                    rotate_left
                    · intro w hS
                      (try dsimp only at hS); first | (go_simp; done) | (go_simp; with_reducible rfl)
                    (try simp only [ptS, stA, st0, stS])
                    refine tkS (i := 1) (v := ?_) (by simp only [opA, opS, op0]; exact rfl) (by kernel_rfl) (by kernel_rfl) (HKT.out _ HX5d.out) ?_ ?_
                    rotate_left
                    · intro w hS
                      (try dsimp only at hS); first | (go_simp; done) | (go_simp; with_reducible rfl)
                    (try simp only [ptS, stA, st0, stS])
                    refine tkS (i := 2) (v := ?_) (by simp only [opA, opS, op0]; exact rfl) (by kernel_rfl) (by kernel_rfl) (HKT.out _ HX5d.out) ?_ ?_
                    rotate_left
                    · intro w hS
                      (try dsimp only at hS); first | (go_simp; done) | (go_simp; with_reducible rfl)
                    (try simp only [ptS, stA, st0, stS])
                    refine wpAnyP_ready (rs := [3]) (by kernel_rfl) (by simp) ?_
                    refine (AllReadyP.cons (by simp only [opA, opS, op0]; exact rfl) (fun K hK => ?_) AllReadyP.nil)
                    rw [if_pos (by kernel_rfl)]
                    have HCR := Lib.hid (number_any 3 MB d prm left 1 l4 wd HM5.out HD.out (by omega) (by omega) (by omega))
                    obtain ⟨t6, l6, hR⟩ : ∃ t r, numF d prm 3 1 l4 = (t, r) := ⟨_, _, rfl⟩
                    rw [hR] at HCR HNUM
                    dsimp only at HNUM
                    clear hR
                    go_simp
                    refine HCR.out.mono ?_
                    rintro e w6 ⟨c6, rfl, hf, hr, hmk, hg⟩
                    have HFl6 := Lib.hid hf
                    have HM6 := Lib.hid hmk
                    have HG6 := Lib.hid (grow_trans HG5.out hg)
                    have HN6 := Lib.hid ((hg.block NB (blk_ltD HN5.out) (fun e => by have := HLT.out; have := HNB.out; injection e with e; omega)).trans HN5.out)
                    have HT6 := Lib.hid ((hg.block TB (blk_ltD HX5d.out) (fun e => by have := HM4.out.lt; have := HTB.out; injection e with e; omega)).trans HX5d.out)
                    have HRp6 := Lib.hid (show RepS .i64 (fun b => NB < b) w6 3 t6.args c6 from hr.mono (fun b hb => by have := blk_ltD HN5.out; omega) (fun _ _ _ _ hc => hc) (Nat.le_refl _))
                    have HRq6 := Lib.hid (show RepS .i64 (fun b => NB < b) w6 3 t4.args (.slice ca4 t4.args.length cc4) from HRp5.out.mono2 (fun b off u hb hc => ⟨hb.1, by rw [World.cell?_of_block (a := ⟨b, off, none⟩) (hg.block b (World.block_lt_of_cell? wd ⟨b, off, none⟩ hc) (fun e => by have := HLT.out; have := HNB.out; have := hb.1; injection e with e; omega))]; exact hc⟩) (Nat.le_refl _))
                    obtain ⟨ca6, cc6, hsh⟩ := hr.shape
                    dsimp only at hsh
                    subst hsh
                    clear hf hr hmk hg HCR
                    unfold agg
                    try go_wp2_with fail
                    refine hK.out _ _ (fun _ => (HKT.out _ HT6.out)) ?_
                    clear hK K
                    (try simp only [ptS, stA, st0, stS])
                    refine wpAnyP_ready (rs := [4]) (by kernel_rfl) (by simp) ?_
                    refine (AllReadyP.cons (by simp only [opA, opS, op0]; exact rfl) (fun K hK => ?_) AllReadyP.nil)
                    rw [if_pos (by kernel_rfl)]
                    have HA7 := Lib.hid (more_allocD w6 (.cells #[.int .i64 t4.op, .string t4.name, .int .i64 t4.n, .slice ca4 t4.args.length cc4, .int .i64 t6.op, .string t6.name, .int .i64 t6.n, .slice ca6 t6.args.length cc6] 36))
                    have HB7 := Lib.hid (alloc_last w6 (.cells #[.int .i64 t4.op, .string t4.name, .int .i64 t4.n, .slice ca4 t4.args.length cc4, .int .i64 t6.op, .string t6.name, .int .i64 t6.n, .slice ca6 t6.args.length cc6] 36))
                    obtain ⟨B7, HE7⟩ : ∃ B, Hid (B = w6.heap.size) := ⟨_, Lib.hid rfl⟩
                    go_simp
                    rw [← HE7.out] at HB7 ⊢
                    generalize w6.alloc (.cells #[.int .i64 t4.op, .string t4.name, .int .i64 t4.n, .slice ca4 t4.args.length cc4, .int .i64 t6.op, .string t6.name, .int .i64 t6.n, .slice ca6 t6.args.length cc6] 36) = w7 at *
                    have HM7 := Lib.hid (HM6.out.more HA7.out)
                    have HG7 := Lib.hid (grow_trans HG6.out (grow_more HA7.out))
                    have HN7 := Lib.hid ((HA7.out.block (blk_ltD HN6.out)).trans HN6.out)
                    have HT7 := Lib.hid ((HA7.out.block (blk_ltD HT6.out)).trans HT6.out)
                    have HRQ := Lib.hid (rep2D (S := fun b => NB < b) HB7.out (by rw [HE7.out]; exact blk_ltD HN6.out) HFl4.out (HRq6.out.mono (fun _ k => k) (fun _ _ _ _ hc => HA7.out.cell hc) (Nat.le_refl _)) HFl6.out (HRp6.out.mono (fun _ k => k) (fun _ _ _ _ hc => HA7.out.cell hc) (Nat.le_refl _)))
                    refine hK.out _ _ (fun _ => (HKT.out _ HT7.out)) ?_
                    clear hK K
                    (try simp only [ptS, stA, st0, stS])
                    refine tkS (i := 5) (v := ?_) (by simp only [opA, opS, op0]; exact rfl) (by kernel_rfl) (by kernel_rfl) (HKT.out _ HT7.out) ?_ ?_
                    rotate_left
                    · intro w hS
                      (try dsimp only at hS); first | (go_simp; done) | (go_simp; with_reducible rfl)
                    (try simp only [ptS, stA, st0, stS])
                    refine wpAnyP_ready (rs := [6]) (by kernel_rfl) (by simp) ?_
                    refine (AllReadyP.cons (by simp only [opA, opS, op0]; exact rfl) (fun K hK => ?_) AllReadyP.nil)
                    rw [if_pos (by kernel_rfl)]
                    have n0 : w7.cell? ⟨NB, 0, none⟩ = some (.int .i64 0) := by simp [World.cell?, HN7.out]
                    have f0 := thaw HN7.out 0
                    have n1 : w7.cell? ⟨NB, 1, none⟩ = some (.string ⟨#[]⟩) := by simp [World.cell?, HN7.out]
                    have f1 := thaw HN7.out 1
                    have n2 : w7.cell? ⟨NB, 2, none⟩ = some (.int .i64 0) := by simp [World.cell?, HN7.out]
                    have f2 := thaw HN7.out 2
                    have n3 : w7.cell? ⟨NB, 3, none⟩ = some (.slice none 0 0) := by simp [World.cell?, HN7.out]
                    have f3 := thaw HN7.out 3
                    have hbn := cell_lt n0
                    go_simp
                    refine hK.out _ _ (gone (by kernel_rfl)) ?_
                    clear hK K
                    (try simp only [ptN])
                    refine wpAnyP_done (by kernel_rfl) ?_ _
                    go_wp2_with fail
                    have HW := set4D HN7.out (.int .i64 (16 + v)) (.string ⟨#[]⟩) (.int .i64 0) (.slice (some ⟨B7, 0, none⟩) 2 2)
                    refine bodyPost_ret (v := .agg #[.int .i64 (16 + v), .string ⟨#[]⟩, .int .i64 0, .slice (some ⟨B7, 0, none⟩) 2 2]) (results_cell_row Try.results154 _ _ NB 36 _ (0, 0) _ rfl HW Try.underlying36 rfl (by kernel_rfl)) rfl ?_
                    rw [← HNUM.out]
                    exact exp_fin HNB.out HLT.out HG7.out HM7.out HN7.out (flds_small (by omega) (by omega) (by omega) (by omega) (by decide) (by simp)) (repUp HRQ.out (by omega))
                  · skip
                    have htl : decide (0 < d.tables) = false := decide_eq_false (by omega)
                    have hdb := Lib.hid HF.out
                    go_wp2_with fail
                    refine HCB.out.mono ?_
                    rintro e w3 ⟨rfl, hmk, hg⟩
                    have HM3 := Lib.hid hmk
                    have HG3 := Lib.hid (grow_trans HG2.out hg)
                    have HN3 := Lib.hid ((hg.block NB (blk_ltD HN2.out) (fun e => by have := HLT.out; have := HNB.out; injection e with e; omega)).trans HN2.out)
                    clear hmk hg
                    have HNP := Lib.hid HN3.out
                    have HCR := Lib.hid (number_any 3 MB d prm left 1 l2 w3 HM3.out HD.out (by omega) (by omega) (by omega))
                    obtain ⟨t4, l4, hR⟩ : ∃ t r, numF d prm 3 1 l2 = (t, r) := ⟨_, _, rfl⟩
                    rw [hR] at HCR HNUM
                    dsimp only at HNUM
                    clear hR
                    go_wp2_with fail
                    refine HCR.out.mono ?_
                    rintro e w4 ⟨c4, rfl, hf, hr, hmk, hg⟩
                    have HFl4 := Lib.hid hf
                    have HRp4 := Lib.hid hr
                    have HM4 := Lib.hid hmk
                    have HG4 := Lib.hid (grow_trans HG3.out hg)
                    have HGl4 := Lib.hid hg
                    have HN4 := Lib.hid ((hg.block NB (blk_ltD HN3.out) (fun e => by have := HLT.out; have := HNB.out; injection e with e; omega)).trans HN3.out)
                    obtain ⟨ca4, cc4, hsh⟩ := hr.shape
                    dsimp only at hsh
                    subst hsh
                    clear hf hr hmk hg HCR
                    unfold agg
                    have hdp9 : dp ≤ 3 := by have := HF.out; omega
                    have HA5 := Lib.hid (more_allocD w4 (.cells #[.int .i64 t4.op, .string t4.name, .int .i64 t4.n, .slice ca4 t4.args.length cc4] 36))
                    have HX5 := Lib.hid (alloc_last w4 (.cells #[.int .i64 t4.op, .string t4.name, .int .i64 t4.n, .slice ca4 t4.args.length cc4] 36))
                    go_upto_region 17 with fail
                    generalize w4.alloc (.cells #[.int .i64 t4.op, .string t4.name, .int .i64 t4.n, .slice ca4 t4.args.length cc4] 36) = w5 at *
                    obtain ⟨TB, HTB⟩ : ∃ B, Hid (B = w4.heap.size) := ⟨_, Lib.hid rfl⟩
                    rw [← HTB.out] at HX5 ⊢
                    have HM5 := Lib.hid (HM4.out.more (more_trans HA5.out (more_drew w5)))
                    have HG5 := Lib.hid (grow_trans HG4.out (grow_more (more_trans HA5.out (more_drew w5))))
                    have HN5 := Lib.hid (show w5.drew.heap[NB]? = _ from (HA5.out.block (blk_ltD HN4.out)).trans HN4.out)
                    have HX5d := Lib.hid (show w5.drew.heap[TB]? = _ from HX5.out)
                    have HRp5 := Lib.hid (show RepS .i64 (fun b => NB < b ∧ b < TB) w5.drew 3 t4.args (.slice ca4 t4.args.length cc4) from HRp4.out.mono2 (fun b off u hb hc => ⟨⟨by have := blk_ltD HNP.out; omega, by have h8 : b < w4.heap.size := World.block_lt_of_cell? w4 ⟨b, off, none⟩ hc; have := HTB.out; omega⟩, (more_trans HA5.out (more_drew w5)).cell hc⟩) (Nat.le_refl _))
                    have HKT := Lib.hid (show ∀ W : World, W.heap[TB]? = some (.cells #[.int .i64 t4.op, .string t4.name, .int .i64 t4.n, .slice ca4 t4.args.length cc4] 36) → (W.cell? ⟨TB, 0, none⟩ = some (.int .i64 t4.op) ∧ W.cell? ⟨TB, 1, none⟩ = some (.string t4.name) ∧ W.cell? ⟨TB, 2, none⟩ = some (.int .i64 t4.n) ∧ W.cell? ⟨TB, 3, none⟩ = some (.slice ca4 t4.args.length cc4)) from fun W h => ⟨by simp [World.cell?, h], by simp [World.cell?, h], by simp [World.cell?, h], by simp [World.cell?, h]⟩)
                    have hbt := blk_ltD HX5d.out
                    have hwr : IntKind.i64.wrap (dp + 1) = dp + 1 := by rw [IntKind.wrap_i64]; omega
                    refine wp_region_heldP (S := fun W => W.cell? ⟨TB, 0, none⟩ = some (.int .i64 t4.op) ∧ W.cell? ⟨TB, 1, none⟩ = some (.string t4.name) ∧ W.cell? ⟨TB, 2, none⟩ = some (.int .i64 t4.n) ∧ W.cell? ⟨TB, 3, none⟩ = some (.slice ca4 t4.args.length cc4)) 6 (by kernel_rfl) ?_
                    generalize w5.drew = wd at *
                    refine tkS (i := 0) (v := ?_) (by simp only [opA, op0]; exact rfl) (by kernel_rfl) (by kernel_rfl) (HKT.out _ HX5d.out) ?_ ?_
                    rotate_left
                    · intro w hS
                      (try dsimp only at hS); first | (go_simp; done) | (go_simp; with_reducible rfl)
                    (try simp only [ptS, stA, st0, stS])
                    refine tkS (i := 1) (v := ?_) (by simp only [opA, opS, op0]; exact rfl) (by kernel_rfl) (by kernel_rfl) (HKT.out _ HX5d.out) ?_ ?_
                    rotate_left
                    · intro w hS
                      (try dsimp only at hS); first | (go_simp; done) | (go_simp; with_reducible rfl)
                    (try simp only [ptS, stA, st0, stS])
                    refine tkS (i := 2) (v := ?_) (by simp only [opA, opS, op0]; exact rfl) (by kernel_rfl) (by kernel_rfl) (HKT.out _ HX5d.out) ?_ ?_
                    rotate_left
                    · intro w hS
                      (try dsimp only at hS); first | (go_simp; done) | (go_simp; with_reducible rfl)
                    (try simp only [ptS, stA, st0, stS])
                    refine wpAnyP_ready (rs := [3]) (by kernel_rfl) (by simp) ?_
                    refine (AllReadyP.cons (by simp only [opA, opS, op0]; exact rfl) (fun K hK => ?_) AllReadyP.nil)
                    rw [if_pos (by kernel_rfl)]
                    have HCR := Lib.hid (number_any 3 MB d prm left 1 l4 wd HM5.out HD.out (by omega) (by omega) (by omega))
                    obtain ⟨t6, l6, hR⟩ : ∃ t r, numF d prm 3 1 l4 = (t, r) := ⟨_, _, rfl⟩
                    rw [hR] at HCR HNUM
                    dsimp only at HNUM
                    clear hR
                    go_simp
                    refine HCR.out.mono ?_
                    rintro e w6 ⟨c6, rfl, hf, hr, hmk, hg⟩
                    have HFl6 := Lib.hid hf
                    have HM6 := Lib.hid hmk
                    have HG6 := Lib.hid (grow_trans HG5.out hg)
                    have HN6 := Lib.hid ((hg.block NB (blk_ltD HN5.out) (fun e => by have := HLT.out; have := HNB.out; injection e with e; omega)).trans HN5.out)
                    have HT6 := Lib.hid ((hg.block TB (blk_ltD HX5d.out) (fun e => by have := HM4.out.lt; have := HTB.out; injection e with e; omega)).trans HX5d.out)
                    have HRp6 := Lib.hid (show RepS .i64 (fun b => NB < b) w6 3 t6.args c6 from hr.mono (fun b hb => by have := blk_ltD HN5.out; omega) (fun _ _ _ _ hc => hc) (Nat.le_refl _))
                    have HRq6 := Lib.hid (show RepS .i64 (fun b => NB < b) w6 3 t4.args (.slice ca4 t4.args.length cc4) from HRp5.out.mono2 (fun b off u hb hc => ⟨hb.1, by rw [World.cell?_of_block (a := ⟨b, off, none⟩) (hg.block b (World.block_lt_of_cell? wd ⟨b, off, none⟩ hc) (fun e => by have := HLT.out; have := HNB.out; have := hb.1; injection e with e; omega))]; exact hc⟩) (Nat.le_refl _))
                    obtain ⟨ca6, cc6, hsh⟩ := hr.shape
                    dsimp only at hsh
                    subst hsh
                    clear hf hr hmk hg HCR
                    unfold agg
                    try go_wp2_with fail
                    refine hK.out _ _ (fun _ => (HKT.out _ HT6.out)) ?_
                    clear hK K
                    (try simp only [ptS, stA, st0, stS])
                    refine wpAnyP_ready (rs := [4]) (by kernel_rfl) (by simp) ?_
                    refine (AllReadyP.cons (by simp only [opA, opS, op0]; exact rfl) (fun K hK => ?_) AllReadyP.nil)
                    rw [if_pos (by kernel_rfl)]
                    have HA7 := Lib.hid (more_allocD w6 (.cells #[.int .i64 t4.op, .string t4.name, .int .i64 t4.n, .slice ca4 t4.args.length cc4, .int .i64 t6.op, .string t6.name, .int .i64 t6.n, .slice ca6 t6.args.length cc6] 36))
                    have HB7 := Lib.hid (alloc_last w6 (.cells #[.int .i64 t4.op, .string t4.name, .int .i64 t4.n, .slice ca4 t4.args.length cc4, .int .i64 t6.op, .string t6.name, .int .i64 t6.n, .slice ca6 t6.args.length cc6] 36))
                    obtain ⟨B7, HE7⟩ : ∃ B, Hid (B = w6.heap.size) := ⟨_, Lib.hid rfl⟩
                    go_simp
                    rw [← HE7.out] at HB7 ⊢
                    generalize w6.alloc (.cells #[.int .i64 t4.op, .string t4.name, .int .i64 t4.n, .slice ca4 t4.args.length cc4, .int .i64 t6.op, .string t6.name, .int .i64 t6.n, .slice ca6 t6.args.length cc6] 36) = w7 at *
                    have HM7 := Lib.hid (HM6.out.more HA7.out)
                    have HG7 := Lib.hid (grow_trans HG6.out (grow_more HA7.out))
                    have HN7 := Lib.hid ((HA7.out.block (blk_ltD HN6.out)).trans HN6.out)
                    have HT7 := Lib.hid ((HA7.out.block (blk_ltD HT6.out)).trans HT6.out)
                    have HRQ := Lib.hid (rep2D (S := fun b => NB < b) HB7.out (by rw [HE7.out]; exact blk_ltD HN6.out) HFl4.out (HRq6.out.mono (fun _ k => k) (fun _ _ _ _ hc => HA7.out.cell hc) (Nat.le_refl _)) HFl6.out (HRp6.out.mono (fun _ k => k) (fun _ _ _ _ hc => HA7.out.cell hc) (Nat.le_refl _)))
                    refine hK.out _ _ (fun _ => (HKT.out _ HT7.out)) ?_
                    clear hK K
                    (try simp only [ptS, stA, st0, stS])
                    refine tkS (i := 5) (v := ?_) (by simp only [opA, opS, op0]; exact rfl) (by kernel_rfl) (by kernel_rfl) (HKT.out _ HT7.out) ?_ ?_
                    rotate_left
                    · intro w hS
                      (try dsimp only at hS); first | (go_simp; done) | (go_simp; with_reducible rfl)
                    (try simp only [ptS, stA, st0, stS])
                    refine wpAnyP_ready (rs := [6]) (by kernel_rfl) (by simp) ?_
                    refine (AllReadyP.cons (by simp only [opA, opS, op0]; exact rfl) (fun K hK => ?_) AllReadyP.nil)
                    rw [if_pos (by kernel_rfl)]
                    have n0 : w7.cell? ⟨NB, 0, none⟩ = some (.int .i64 0) := by simp [World.cell?, HN7.out]
                    have f0 := thaw HN7.out 0
                    have n1 : w7.cell? ⟨NB, 1, none⟩ = some (.string ⟨#[]⟩) := by simp [World.cell?, HN7.out]
                    have f1 := thaw HN7.out 1
                    have n2 : w7.cell? ⟨NB, 2, none⟩ = some (.int .i64 0) := by simp [World.cell?, HN7.out]
                    have f2 := thaw HN7.out 2
                    have n3 : w7.cell? ⟨NB, 3, none⟩ = some (.slice none 0 0) := by simp [World.cell?, HN7.out]
                    have f3 := thaw HN7.out 3
                    have hbn := cell_lt n0
                    go_simp
                    refine hK.out _ _ (gone (by kernel_rfl)) ?_
                    clear hK K
                    (try simp only [ptN])
                    refine wpAnyP_done (by kernel_rfl) ?_ _
                    go_wp2_with fail
                    have HW := set4D HN7.out (.int .i64 (16 + v)) (.string ⟨#[]⟩) (.int .i64 0) (.slice (some ⟨B7, 0, none⟩) 2 2)
                    refine bodyPost_ret (v := .agg #[.int .i64 (16 + v), .string ⟨#[]⟩, .int .i64 0, .slice (some ⟨B7, 0, none⟩) 2 2]) (results_cell_row Try.results154 _ _ NB 36 _ (0, 0) _ rfl HW Try.underlying36 rfl (by kernel_rfl)) rfl ?_
                    rw [← HNUM.out]
                    exact exp_fin HNB.out HLT.out HG7.out HM7.out HN7.out (flds_small (by omega) (by omega) (by omega) (by omega) (by decide) (by simp)) (repUp HRQ.out (by omega))
                · rcases hH1 with ⟨hdp, hk4⟩ | hdp
                  · skip
                    have hdb := Lib.hid HF.out
                    go_wp2_with fail
                    refine HCB.out.mono ?_
                    rintro e w3 ⟨rfl, hmk, hg⟩
                    have HM3 := Lib.hid hmk
                    have HG3 := Lib.hid (grow_trans HG2.out hg)
                    have HN3 := Lib.hid ((hg.block NB (blk_ltD HN2.out) (fun e => by have := HLT.out; have := HNB.out; injection e with e; omega)).trans HN2.out)
                    clear hmk hg
                    have HNP := Lib.hid HN3.out
                    have HCR := Lib.hid (number_any 3 MB d prm left 1 l2 w3 HM3.out HD.out (by omega) (by omega) (by omega))
                    obtain ⟨t4, l4, hR⟩ : ∃ t r, numF d prm 3 1 l2 = (t, r) := ⟨_, _, rfl⟩
                    rw [hR] at HCR HNUM
                    dsimp only at HNUM
                    clear hR
                    go_wp2_with fail
                    refine HCR.out.mono ?_
                    rintro e w4 ⟨c4, rfl, hf, hr, hmk, hg⟩
                    have HFl4 := Lib.hid hf
                    have HRp4 := Lib.hid hr
                    have HM4 := Lib.hid hmk
                    have HG4 := Lib.hid (grow_trans HG3.out hg)
                    have HGl4 := Lib.hid hg
                    have HN4 := Lib.hid ((hg.block NB (blk_ltD HN3.out) (fun e => by have := HLT.out; have := HNB.out; injection e with e; omega)).trans HN3.out)
                    obtain ⟨ca4, cc4, hsh⟩ := hr.shape
                    dsimp only at hsh
                    subst hsh
                    clear hf hr hmk hg HCR
                    unfold agg
                    have hdp9 : dp ≤ 3 := by have := HF.out; omega
                    have HA5 := Lib.hid (more_allocD w4 (.cells #[.int .i64 t4.op, .string t4.name, .int .i64 t4.n, .slice ca4 t4.args.length cc4] 36))
                    have HX5 := Lib.hid (alloc_last w4 (.cells #[.int .i64 t4.op, .string t4.name, .int .i64 t4.n, .slice ca4 t4.args.length cc4] 36))
                    go_upto_region 17 with fail
                    generalize w4.alloc (.cells #[.int .i64 t4.op, .string t4.name, .int .i64 t4.n, .slice ca4 t4.args.length cc4] 36) = w5 at *
                    obtain ⟨TB, HTB⟩ : ∃ B, Hid (B = w4.heap.size) := ⟨_, Lib.hid rfl⟩
                    rw [← HTB.out] at HX5 ⊢
                    have HM5 := Lib.hid (HM4.out.more (more_trans HA5.out (more_drew w5)))
                    have HG5 := Lib.hid (grow_trans HG4.out (grow_more (more_trans HA5.out (more_drew w5))))
                    have HN5 := Lib.hid (show w5.drew.heap[NB]? = _ from (HA5.out.block (blk_ltD HN4.out)).trans HN4.out)
                    have HX5d := Lib.hid (show w5.drew.heap[TB]? = _ from HX5.out)
                    have HRp5 := Lib.hid (show RepS .i64 (fun b => NB < b ∧ b < TB) w5.drew 3 t4.args (.slice ca4 t4.args.length cc4) from HRp4.out.mono2 (fun b off u hb hc => ⟨⟨by have := blk_ltD HNP.out; omega, by have h8 : b < w4.heap.size := World.block_lt_of_cell? w4 ⟨b, off, none⟩ hc; have := HTB.out; omega⟩, (more_trans HA5.out (more_drew w5)).cell hc⟩) (Nat.le_refl _))
                    have HKT := Lib.hid (show ∀ W : World, W.heap[TB]? = some (.cells #[.int .i64 t4.op, .string t4.name, .int .i64 t4.n, .slice ca4 t4.args.length cc4] 36) → (W.cell? ⟨TB, 0, none⟩ = some (.int .i64 t4.op) ∧ W.cell? ⟨TB, 1, none⟩ = some (.string t4.name) ∧ W.cell? ⟨TB, 2, none⟩ = some (.int .i64 t4.n) ∧ W.cell? ⟨TB, 3, none⟩ = some (.slice ca4 t4.args.length cc4)) from fun W h => ⟨by simp [World.cell?, h], by simp [World.cell?, h], by simp [World.cell?, h], by simp [World.cell?, h]⟩)
                    have hbt := blk_ltD HX5d.out
                    have hwr : IntKind.i64.wrap (dp + 1) = dp + 1 := by rw [IntKind.wrap_i64]; omega
                    refine wp_region_heldP (S := fun W => W.cell? ⟨TB, 0, none⟩ = some (.int .i64 t4.op) ∧ W.cell? ⟨TB, 1, none⟩ = some (.string t4.name) ∧ W.cell? ⟨TB, 2, none⟩ = some (.int .i64 t4.n) ∧ W.cell? ⟨TB, 3, none⟩ = some (.slice ca4 t4.args.length cc4)) 6 (by kernel_rfl) ?_
                    generalize w5.drew = wd at *
                    refine tkS (i := 0) (v := ?_) (by simp only [opA, op0]; exact rfl) (by kernel_rfl) (by kernel_rfl) (HKT.out _ HX5d.out) ?_ ?_
                    rotate_left
                    · intro w hS
                      (try dsimp only at hS); first | (go_simp; done) | (go_simp; with_reducible rfl)
                    (try simp only [ptS, stA, st0, stS])
                    refine tkS (i := 1) (v := ?_) (by simp only [opA, opS, op0]; exact rfl) (by kernel_rfl) (by kernel_rfl) (HKT.out _ HX5d.out) ?_ ?_
                    rotate_left
                    · intro w hS
                      (try dsimp only at hS); first | (go_simp; done) | (go_simp; with_reducible rfl)
                    (try simp only [ptS, stA, st0, stS])
                    refine tkS (i := 2) (v := ?_) (by simp only [opA, opS, op0]; exact rfl) (by kernel_rfl) (by kernel_rfl) (HKT.out _ HX5d.out) ?_ ?_
                    rotate_left
                    · intro w hS
                      (try dsimp only at hS); first | (go_simp; done) | (go_simp; with_reducible rfl)
                    (try simp only [ptS, stA, st0, stS])
                    refine wpAnyP_ready (rs := [3]) (by kernel_rfl) (by simp) ?_
                    refine (AllReadyP.cons (by simp only [opA, opS, op0]; exact rfl) (fun K hK => ?_) AllReadyP.nil)
                    rw [if_pos (by kernel_rfl)]
                    have HCR := Lib.hid (number_any 3 MB d prm left 1 l4 wd HM5.out HD.out (by omega) (by omega) (by omega))
                    obtain ⟨t6, l6, hR⟩ : ∃ t r, numF d prm 3 1 l4 = (t, r) := ⟨_, _, rfl⟩
                    rw [hR] at HCR HNUM
                    dsimp only at HNUM
                    clear hR
                    go_simp
                    refine HCR.out.mono ?_
                    rintro e w6 ⟨c6, rfl, hf, hr, hmk, hg⟩
                    have HFl6 := Lib.hid hf
                    have HM6 := Lib.hid hmk
                    have HG6 := Lib.hid (grow_trans HG5.out hg)
                    have HN6 := Lib.hid ((hg.block NB (blk_ltD HN5.out) (fun e => by have := HLT.out; have := HNB.out; injection e with e; omega)).trans HN5.out)
                    have HT6 := Lib.hid ((hg.block TB (blk_ltD HX5d.out) (fun e => by have := HM4.out.lt; have := HTB.out; injection e with e; omega)).trans HX5d.out)
                    have HRp6 := Lib.hid (show RepS .i64 (fun b => NB < b) w6 3 t6.args c6 from hr.mono (fun b hb => by have := blk_ltD HN5.out; omega) (fun _ _ _ _ hc => hc) (Nat.le_refl _))
                    have HRq6 := Lib.hid (show RepS .i64 (fun b => NB < b) w6 3 t4.args (.slice ca4 t4.args.length cc4) from HRp5.out.mono2 (fun b off u hb hc => ⟨hb.1, by rw [World.cell?_of_block (a := ⟨b, off, none⟩) (hg.block b (World.block_lt_of_cell? wd ⟨b, off, none⟩ hc) (fun e => by have := HLT.out; have := HNB.out; have := hb.1; injection e with e; omega))]; exact hc⟩) (Nat.le_refl _))
                    obtain ⟨ca6, cc6, hsh⟩ := hr.shape
                    dsimp only at hsh
                    subst hsh
                    clear hf hr hmk hg HCR
                    unfold agg
                    try go_wp2_with fail
                    refine hK.out _ _ (fun _ => (HKT.out _ HT6.out)) ?_
                    clear hK K
                    (try simp only [ptS, stA, st0, stS])
                    refine wpAnyP_ready (rs := [4]) (by kernel_rfl) (by simp) ?_
                    refine (AllReadyP.cons (by simp only [opA, opS, op0]; exact rfl) (fun K hK => ?_) AllReadyP.nil)
                    rw [if_pos (by kernel_rfl)]
                    have HA7 := Lib.hid (more_allocD w6 (.cells #[.int .i64 t4.op, .string t4.name, .int .i64 t4.n, .slice ca4 t4.args.length cc4, .int .i64 t6.op, .string t6.name, .int .i64 t6.n, .slice ca6 t6.args.length cc6] 36))
                    have HB7 := Lib.hid (alloc_last w6 (.cells #[.int .i64 t4.op, .string t4.name, .int .i64 t4.n, .slice ca4 t4.args.length cc4, .int .i64 t6.op, .string t6.name, .int .i64 t6.n, .slice ca6 t6.args.length cc6] 36))
                    obtain ⟨B7, HE7⟩ : ∃ B, Hid (B = w6.heap.size) := ⟨_, Lib.hid rfl⟩
                    go_simp
                    rw [← HE7.out] at HB7 ⊢
                    generalize w6.alloc (.cells #[.int .i64 t4.op, .string t4.name, .int .i64 t4.n, .slice ca4 t4.args.length cc4, .int .i64 t6.op, .string t6.name, .int .i64 t6.n, .slice ca6 t6.args.length cc6] 36) = w7 at *
                    have HM7 := Lib.hid (HM6.out.more HA7.out)
                    have HG7 := Lib.hid (grow_trans HG6.out (grow_more HA7.out))
                    have HN7 := Lib.hid ((HA7.out.block (blk_ltD HN6.out)).trans HN6.out)
                    have HT7 := Lib.hid ((HA7.out.block (blk_ltD HT6.out)).trans HT6.out)
                    have HRQ := Lib.hid (rep2D (S := fun b => NB < b) HB7.out (by rw [HE7.out]; exact blk_ltD HN6.out) HFl4.out (HRq6.out.mono (fun _ k => k) (fun _ _ _ _ hc => HA7.out.cell hc) (Nat.le_refl _)) HFl6.out (HRp6.out.mono (fun _ k => k) (fun _ _ _ _ hc => HA7.out.cell hc) (Nat.le_refl _)))
                    refine hK.out _ _ (fun _ => (HKT.out _ HT7.out)) ?_
                    clear hK K
                    (try simp only [ptS, stA, st0, stS])
                    refine tkS (i := 5) (v := ?_) (by simp only [opA, opS, op0]; exact rfl) (by kernel_rfl) (by kernel_rfl) (HKT.out _ HT7.out) ?_ ?_
                    rotate_left
                    · intro w hS
                      (try dsimp only at hS); first | (go_simp; done) | (go_simp; with_reducible rfl)
                    (try simp only [ptS, stA, st0, stS])
                    refine wpAnyP_ready (rs := [6]) (by kernel_rfl) (by simp) ?_
                    refine (AllReadyP.cons (by simp only [opA, opS, op0]; exact rfl) (fun K hK => ?_) AllReadyP.nil)
                    rw [if_pos (by kernel_rfl)]
                    have n0 : w7.cell? ⟨NB, 0, none⟩ = some (.int .i64 0) := by simp [World.cell?, HN7.out]
                    have f0 := thaw HN7.out 0
                    have n1 : w7.cell? ⟨NB, 1, none⟩ = some (.string ⟨#[]⟩) := by simp [World.cell?, HN7.out]
                    have f1 := thaw HN7.out 1
                    have n2 : w7.cell? ⟨NB, 2, none⟩ = some (.int .i64 0) := by simp [World.cell?, HN7.out]
                    have f2 := thaw HN7.out 2
                    have n3 : w7.cell? ⟨NB, 3, none⟩ = some (.slice none 0 0) := by simp [World.cell?, HN7.out]
                    have f3 := thaw HN7.out 3
                    have hbn := cell_lt n0
                    go_simp
                    refine hK.out _ _ (gone (by kernel_rfl)) ?_
                    clear hK K
                    (try simp only [ptN])
                    refine wpAnyP_done (by kernel_rfl) ?_ _
                    go_wp2_with fail
                    have HW := set4D HN7.out (.int .i64 (16 + v)) (.string ⟨#[]⟩) (.int .i64 0) (.slice (some ⟨B7, 0, none⟩) 2 2)
                    refine bodyPost_ret (v := .agg #[.int .i64 (16 + v), .string ⟨#[]⟩, .int .i64 0, .slice (some ⟨B7, 0, none⟩) 2 2]) (results_cell_row Try.results154 _ _ NB 36 _ (0, 0) _ rfl HW Try.underlying36 rfl (by kernel_rfl)) rfl ?_
                    rw [← HNUM.out]
                    exact exp_fin HNB.out HLT.out HG7.out HM7.out HN7.out (flds_small (by omega) (by omega) (by omega) (by omega) (by decide) (by simp)) (repUp HRQ.out (by omega))
                  · skip
                    have hdb := Lib.hid HF.out
                    go_wp2_with fail
                    refine HCB.out.mono ?_
                    rintro e w3 ⟨rfl, hmk, hg⟩
                    have HM3 := Lib.hid hmk
                    have HG3 := Lib.hid (grow_trans HG2.out hg)
                    have HN3 := Lib.hid ((hg.block NB (blk_ltD HN2.out) (fun e => by have := HLT.out; have := HNB.out; injection e with e; omega)).trans HN2.out)
                    clear hmk hg
                    have HNP := Lib.hid HN3.out
                    have HCR := Lib.hid (number_any 3 MB d prm left 1 l2 w3 HM3.out HD.out (by omega) (by omega) (by omega))
                    obtain ⟨t4, l4, hR⟩ : ∃ t r, numF d prm 3 1 l2 = (t, r) := ⟨_, _, rfl⟩
                    rw [hR] at HCR HNUM
                    dsimp only at HNUM
                    clear hR
                    go_wp2_with fail
                    refine HCR.out.mono ?_
                    rintro e w4 ⟨c4, rfl, hf, hr, hmk, hg⟩
                    have HFl4 := Lib.hid hf
                    have HRp4 := Lib.hid hr
                    have HM4 := Lib.hid hmk
                    have HG4 := Lib.hid (grow_trans HG3.out hg)
                    have HGl4 := Lib.hid hg
                    have HN4 := Lib.hid ((hg.block NB (blk_ltD HN3.out) (fun e => by have := HLT.out; have := HNB.out; injection e with e; omega)).trans HN3.out)
                    obtain ⟨ca4, cc4, hsh⟩ := hr.shape
                    dsimp only at hsh
                    subst hsh
                    clear hf hr hmk hg HCR
                    unfold agg
                    have hdp9 : dp ≤ 3 := by have := HF.out; omega
                    have HA5 := Lib.hid (more_allocD w4 (.cells #[.int .i64 t4.op, .string t4.name, .int .i64 t4.n, .slice ca4 t4.args.length cc4] 36))
                    have HX5 := Lib.hid (alloc_last w4 (.cells #[.int .i64 t4.op, .string t4.name, .int .i64 t4.n, .slice ca4 t4.args.length cc4] 36))
                    go_upto_region 17 with fail
                    generalize w4.alloc (.cells #[.int .i64 t4.op, .string t4.name, .int .i64 t4.n, .slice ca4 t4.args.length cc4] 36) = w5 at *
                    obtain ⟨TB, HTB⟩ : ∃ B, Hid (B = w4.heap.size) := ⟨_, Lib.hid rfl⟩
                    rw [← HTB.out] at HX5 ⊢
                    have HM5 := Lib.hid (HM4.out.more (more_trans HA5.out (more_drew w5)))
                    have HG5 := Lib.hid (grow_trans HG4.out (grow_more (more_trans HA5.out (more_drew w5))))
                    have HN5 := Lib.hid (show w5.drew.heap[NB]? = _ from (HA5.out.block (blk_ltD HN4.out)).trans HN4.out)
                    have HX5d := Lib.hid (show w5.drew.heap[TB]? = _ from HX5.out)
                    have HRp5 := Lib.hid (show RepS .i64 (fun b => NB < b ∧ b < TB) w5.drew 3 t4.args (.slice ca4 t4.args.length cc4) from HRp4.out.mono2 (fun b off u hb hc => ⟨⟨by have := blk_ltD HNP.out; omega, by have h8 : b < w4.heap.size := World.block_lt_of_cell? w4 ⟨b, off, none⟩ hc; have := HTB.out; omega⟩, (more_trans HA5.out (more_drew w5)).cell hc⟩) (Nat.le_refl _))
                    have HKT := Lib.hid (show ∀ W : World, W.heap[TB]? = some (.cells #[.int .i64 t4.op, .string t4.name, .int .i64 t4.n, .slice ca4 t4.args.length cc4] 36) → (W.cell? ⟨TB, 0, none⟩ = some (.int .i64 t4.op) ∧ W.cell? ⟨TB, 1, none⟩ = some (.string t4.name) ∧ W.cell? ⟨TB, 2, none⟩ = some (.int .i64 t4.n) ∧ W.cell? ⟨TB, 3, none⟩ = some (.slice ca4 t4.args.length cc4)) from fun W h => ⟨by simp [World.cell?, h], by simp [World.cell?, h], by simp [World.cell?, h], by simp [World.cell?, h]⟩)
                    have hbt := blk_ltD HX5d.out
                    have hwr : IntKind.i64.wrap (dp + 1) = dp + 1 := by rw [IntKind.wrap_i64]; omega
                    refine wp_region_heldP (S := fun W => W.cell? ⟨TB, 0, none⟩ = some (.int .i64 t4.op) ∧ W.cell? ⟨TB, 1, none⟩ = some (.string t4.name) ∧ W.cell? ⟨TB, 2, none⟩ = some (.int .i64 t4.n) ∧ W.cell? ⟨TB, 3, none⟩ = some (.slice ca4 t4.args.length cc4)) 6 (by kernel_rfl) ?_
                    generalize w5.drew = wd at *
                    refine tkS (i := 0) (v := ?_) (by simp only [opA, op0]; exact rfl) (by kernel_rfl) (by kernel_rfl) (HKT.out _ HX5d.out) ?_ ?_
                    rotate_left
                    · intro w hS
                      (try dsimp only at hS); first | (go_simp; done) | (go_simp; with_reducible rfl)
                    (try simp only [ptS, stA, st0, stS])
                    refine tkS (i := 1) (v := ?_) (by simp only [opA, opS, op0]; exact rfl) (by kernel_rfl) (by kernel_rfl) (HKT.out _ HX5d.out) ?_ ?_
                    rotate_left
                    · intro w hS
                      (try dsimp only at hS); first | (go_simp; done) | (go_simp; with_reducible rfl)
                    (try simp only [ptS, stA, st0, stS])
                    refine tkS (i := 2) (v := ?_) (by simp only [opA, opS, op0]; exact rfl) (by kernel_rfl) (by kernel_rfl) (HKT.out _ HX5d.out) ?_ ?_
                    rotate_left
                    · intro w hS
                      (try dsimp only at hS); first | (go_simp; done) | (go_simp; with_reducible rfl)
                    (try simp only [ptS, stA, st0, stS])
                    refine wpAnyP_ready (rs := [3]) (by kernel_rfl) (by simp) ?_
                    refine (AllReadyP.cons (by simp only [opA, opS, op0]; exact rfl) (fun K hK => ?_) AllReadyP.nil)
                    rw [if_pos (by kernel_rfl)]
                    have HCR := Lib.hid (number_any 3 MB d prm left 1 l4 wd HM5.out HD.out (by omega) (by omega) (by omega))
                    obtain ⟨t6, l6, hR⟩ : ∃ t r, numF d prm 3 1 l4 = (t, r) := ⟨_, _, rfl⟩
                    rw [hR] at HCR HNUM
                    dsimp only at HNUM
                    clear hR
                    go_simp
                    refine HCR.out.mono ?_
                    rintro e w6 ⟨c6, rfl, hf, hr, hmk, hg⟩
                    have HFl6 := Lib.hid hf
                    have HM6 := Lib.hid hmk
                    have HG6 := Lib.hid (grow_trans HG5.out hg)
                    have HN6 := Lib.hid ((hg.block NB (blk_ltD HN5.out) (fun e => by have := HLT.out; have := HNB.out; injection e with e; omega)).trans HN5.out)
                    have HT6 := Lib.hid ((hg.block TB (blk_ltD HX5d.out) (fun e => by have := HM4.out.lt; have := HTB.out; injection e with e; omega)).trans HX5d.out)
                    have HRp6 := Lib.hid (show RepS .i64 (fun b => NB < b) w6 3 t6.args c6 from hr.mono (fun b hb => by have := blk_ltD HN5.out; omega) (fun _ _ _ _ hc => hc) (Nat.le_refl _))
                    have HRq6 := Lib.hid (show RepS .i64 (fun b => NB < b) w6 3 t4.args (.slice ca4 t4.args.length cc4) from HRp5.out.mono2 (fun b off u hb hc => ⟨hb.1, by rw [World.cell?_of_block (a := ⟨b, off, none⟩) (hg.block b (World.block_lt_of_cell? wd ⟨b, off, none⟩ hc) (fun e => by have := HLT.out; have := HNB.out; have := hb.1; injection e with e; omega))]; exact hc⟩) (Nat.le_refl _))
                    obtain ⟨ca6, cc6, hsh⟩ := hr.shape
                    dsimp only at hsh
                    subst hsh
                    clear hf hr hmk hg HCR
                    unfold agg
                    try go_wp2_with fail
                    refine hK.out _ _ (fun _ => (HKT.out _ HT6.out)) ?_
                    clear hK K
                    (try simp only [ptS, stA, st0, stS])
                    refine wpAnyP_ready (rs := [4]) (by kernel_rfl) (by simp) ?_
                    refine (AllReadyP.cons (by simp only [opA, opS, op0]; exact rfl) (fun K hK => ?_) AllReadyP.nil)
                    rw [if_pos (by kernel_rfl)]
                    have HA7 := Lib.hid (more_allocD w6 (.cells #[.int .i64 t4.op, .string t4.name, .int .i64 t4.n, .slice ca4 t4.args.length cc4, .int .i64 t6.op, .string t6.name, .int .i64 t6.n, .slice ca6 t6.args.length cc6] 36))
                    have HB7 := Lib.hid (alloc_last w6 (.cells #[.int .i64 t4.op, .string t4.name, .int .i64 t4.n, .slice ca4 t4.args.length cc4, .int .i64 t6.op, .string t6.name, .int .i64 t6.n, .slice ca6 t6.args.length cc6] 36))
                    obtain ⟨B7, HE7⟩ : ∃ B, Hid (B = w6.heap.size) := ⟨_, Lib.hid rfl⟩
                    go_simp
                    rw [← HE7.out] at HB7 ⊢
                    generalize w6.alloc (.cells #[.int .i64 t4.op, .string t4.name, .int .i64 t4.n, .slice ca4 t4.args.length cc4, .int .i64 t6.op, .string t6.name, .int .i64 t6.n, .slice ca6 t6.args.length cc6] 36) = w7 at *
                    have HM7 := Lib.hid (HM6.out.more HA7.out)
                    have HG7 := Lib.hid (grow_trans HG6.out (grow_more HA7.out))
                    have HN7 := Lib.hid ((HA7.out.block (blk_ltD HN6.out)).trans HN6.out)
                    have HT7 := Lib.hid ((HA7.out.block (blk_ltD HT6.out)).trans HT6.out)
                    have HRQ := Lib.hid (rep2D (S := fun b => NB < b) HB7.out (by rw [HE7.out]; exact blk_ltD HN6.out) HFl4.out (HRq6.out.mono (fun _ k => k) (fun _ _ _ _ hc => HA7.out.cell hc) (Nat.le_refl _)) HFl6.out (HRp6.out.mono (fun _ k => k) (fun _ _ _ _ hc => HA7.out.cell hc) (Nat.le_refl _)))
                    refine hK.out _ _ (fun _ => (HKT.out _ HT7.out)) ?_
                    clear hK K
                    (try simp only [ptS, stA, st0, stS])
                    refine tkS (i := 5) (v := ?_) (by simp only [opA, opS, op0]; exact rfl) (by kernel_rfl) (by kernel_rfl) (HKT.out _ HT7.out) ?_ ?_
                    rotate_left
                    · intro w hS
                      (try dsimp only at hS); first | (go_simp; done) | (go_simp; with_reducible rfl)
                    (try simp only [ptS, stA, st0, stS])
                    refine wpAnyP_ready (rs := [6]) (by kernel_rfl) (by simp) ?_
                    refine (AllReadyP.cons (by simp only [opA, opS, op0]; exact rfl) (fun K hK => ?_) AllReadyP.nil)
                    rw [if_pos (by kernel_rfl)]
                    have n0 : w7.cell? ⟨NB, 0, none⟩ = some (.int .i64 0) := by simp [World.cell?, HN7.out]
                    have f0 := thaw HN7.out 0
                    have n1 : w7.cell? ⟨NB, 1, none⟩ = some (.string ⟨#[]⟩) := by simp [World.cell?, HN7.out]
                    have f1 := thaw HN7.out 1
                    have n2 : w7.cell? ⟨NB, 2, none⟩ = some (.int .i64 0) := by simp [World.cell?, HN7.out]
                    have f2 := thaw HN7.out 2
                    have n3 : w7.cell? ⟨NB, 3, none⟩ = some (.slice none 0 0) := by simp [World.cell?, HN7.out]
                    have f3 := thaw HN7.out 3
                    have hbn := cell_lt n0
                    go_simp
                    refine hK.out _ _ (gone (by kernel_rfl)) ?_
                    clear hK K
                    (try simp only [ptN])
                    refine wpAnyP_done (by kernel_rfl) ?_ _
                    go_wp2_with fail
                    have HW := set4D HN7.out (.int .i64 (16 + v)) (.string ⟨#[]⟩) (.int .i64 0) (.slice (some ⟨B7, 0, none⟩) 2 2)
                    refine bodyPost_ret (v := .agg #[.int .i64 (16 + v), .string ⟨#[]⟩, .int .i64 0, .slice (some ⟨B7, 0, none⟩) 2 2]) (results_cell_row Try.results154 _ _ NB 36 _ (0, 0) _ rfl HW Try.underlying36 rfl (by kernel_rfl)) rfl ?_
                    rw [← HNUM.out]
                    exact exp_fin HNB.out HLT.out HG7.out HM7.out HN7.out (flds_small (by omega) (by omega) (by omega) (by omega) (by decide) (by simp)) (repUp HRQ.out (by omega))
                · rcases hH1 with ⟨hdp, hk4⟩ | hdp
                  · omega
                  · skip
                    have hdb := Lib.hid HF.out
                    go_wp2_with fail
                    refine HCB.out.mono ?_
                    rintro e w3 ⟨rfl, hmk, hg⟩
                    have HM3 := Lib.hid hmk
                    have HG3 := Lib.hid (grow_trans HG2.out hg)
                    have HN3 := Lib.hid ((hg.block NB (blk_ltD HN2.out) (fun e => by have := HLT.out; have := HNB.out; injection e with e; omega)).trans HN2.out)
                    clear hmk hg
                    have HNP := Lib.hid HN3.out
                    have HCR := Lib.hid (number_any 3 MB d prm left 1 l2 w3 HM3.out HD.out (by omega) (by omega) (by omega))
                    obtain ⟨t4, l4, hR⟩ : ∃ t r, numF d prm 3 1 l2 = (t, r) := ⟨_, _, rfl⟩
                    rw [hR] at HCR HNUM
                    dsimp only at HNUM
                    clear hR
                    go_wp2_with fail
                    refine HCR.out.mono ?_
                    rintro e w4 ⟨c4, rfl, hf, hr, hmk, hg⟩
                    have HFl4 := Lib.hid hf
                    have HRp4 := Lib.hid hr
                    have HM4 := Lib.hid hmk
                    have HG4 := Lib.hid (grow_trans HG3.out hg)
                    have HGl4 := Lib.hid hg
                    have HN4 := Lib.hid ((hg.block NB (blk_ltD HN3.out) (fun e => by have := HLT.out; have := HNB.out; injection e with e; omega)).trans HN3.out)
                    obtain ⟨ca4, cc4, hsh⟩ := hr.shape
                    dsimp only at hsh
                    subst hsh
                    clear hf hr hmk hg HCR
                    unfold agg
                    have hdp9 : dp ≤ 3 := by have := HF.out; omega
                    have HA5 := Lib.hid (more_allocD w4 (.cells #[.int .i64 t4.op, .string t4.name, .int .i64 t4.n, .slice ca4 t4.args.length cc4] 36))
                    have HX5 := Lib.hid (alloc_last w4 (.cells #[.int .i64 t4.op, .string t4.name, .int .i64 t4.n, .slice ca4 t4.args.length cc4] 36))
                    go_upto_region 17 with fail
                    generalize w4.alloc (.cells #[.int .i64 t4.op, .string t4.name, .int .i64 t4.n, .slice ca4 t4.args.length cc4] 36) = w5 at *
                    obtain ⟨TB, HTB⟩ : ∃ B, Hid (B = w4.heap.size) := ⟨_, Lib.hid rfl⟩
                    rw [← HTB.out] at HX5 ⊢
                    have HM5 := Lib.hid (HM4.out.more (more_trans HA5.out (more_drew w5)))
                    have HG5 := Lib.hid (grow_trans HG4.out (grow_more (more_trans HA5.out (more_drew w5))))
                    have HN5 := Lib.hid (show w5.drew.heap[NB]? = _ from (HA5.out.block (blk_ltD HN4.out)).trans HN4.out)
                    have HX5d := Lib.hid (show w5.drew.heap[TB]? = _ from HX5.out)
                    have HRp5 := Lib.hid (show RepS .i64 (fun b => NB < b ∧ b < TB) w5.drew 3 t4.args (.slice ca4 t4.args.length cc4) from HRp4.out.mono2 (fun b off u hb hc => ⟨⟨by have := blk_ltD HNP.out; omega, by have h8 : b < w4.heap.size := World.block_lt_of_cell? w4 ⟨b, off, none⟩ hc; have := HTB.out; omega⟩, (more_trans HA5.out (more_drew w5)).cell hc⟩) (Nat.le_refl _))
                    have HKT := Lib.hid (show ∀ W : World, W.heap[TB]? = some (.cells #[.int .i64 t4.op, .string t4.name, .int .i64 t4.n, .slice ca4 t4.args.length cc4] 36) → (W.cell? ⟨TB, 0, none⟩ = some (.int .i64 t4.op) ∧ W.cell? ⟨TB, 1, none⟩ = some (.string t4.name) ∧ W.cell? ⟨TB, 2, none⟩ = some (.int .i64 t4.n) ∧ W.cell? ⟨TB, 3, none⟩ = some (.slice ca4 t4.args.length cc4)) from fun W h => ⟨by simp [World.cell?, h], by simp [World.cell?, h], by simp [World.cell?, h], by simp [World.cell?, h]⟩)
                    have hbt := blk_ltD HX5d.out
                    have hwr : IntKind.i64.wrap (dp + 1) = dp + 1 := by rw [IntKind.wrap_i64]; omega
                    refine wp_region_heldP (S := fun W => W.cell? ⟨TB, 0, none⟩ = some (.int .i64 t4.op) ∧ W.cell? ⟨TB, 1, none⟩ = some (.string t4.name) ∧ W.cell? ⟨TB, 2, none⟩ = some (.int .i64 t4.n) ∧ W.cell? ⟨TB, 3, none⟩ = some (.slice ca4 t4.args.length cc4)) 6 (by kernel_rfl) ?_
                    generalize w5.drew = wd at *
                    refine tkS (i := 0) (v := ?_) (by simp only [opA, op0]; exact rfl) (by kernel_rfl) (by kernel_rfl) (HKT.out _ HX5d.out) ?_ ?_
                    rotate_left
                    · intro w hS
                      (try dsimp only at hS); first | (go_simp; done) | (go_simp; with_reducible rfl)
                    (try simp only [ptS, stA, st0, stS])
                    refine tkS (i := 1) (v := ?_) (by simp only [opA, opS, op0]; exact rfl) (by kernel_rfl) (by kernel_rfl) (HKT.out _ HX5d.out) ?_ ?_
                    rotate_left
                    · intro w hS
                      (try dsimp only at hS); first | (go_simp; done) | (go_simp; with_reducible rfl)
                    (try simp only [ptS, stA, st0, stS])
                    refine tkS (i := 2) (v := ?_) (by simp only [opA, opS, op0]; exact rfl) (by kernel_rfl) (by kernel_rfl) (HKT.out _ HX5d.out) ?_ ?_
                    rotate_left
                    · intro w hS
                      (try dsimp only at hS); first | (go_simp; done) | (go_simp; with_reducible rfl)
                    (try simp only [ptS, stA, st0, stS])
                    refine wpAnyP_ready (rs := [3]) (by kernel_rfl) (by simp) ?_
                    refine (AllReadyP.cons (by simp only [opA, opS, op0]; exact rfl) (fun K hK => ?_) AllReadyP.nil)
                    rw [if_pos (by kernel_rfl)]
                    have HCR := Lib.hid (number_any 3 MB d prm left 1 l4 wd HM5.out HD.out (by omega) (by omega) (by omega))
                    obtain ⟨t6, l6, hR⟩ : ∃ t r, numF d prm 3 1 l4 = (t, r) := ⟨_, _, rfl⟩
                    rw [hR] at HCR HNUM
                    dsimp only at HNUM
                    clear hR
                    go_simp
                    refine HCR.out.mono ?_
                    rintro e w6 ⟨c6, rfl, hf, hr, hmk, hg⟩
                    have HFl6 := Lib.hid hf
                    have HM6 := Lib.hid hmk
                    have HG6 := Lib.hid (grow_trans HG5.out hg)
                    have HN6 := Lib.hid ((hg.block NB (blk_ltD HN5.out) (fun e => by have := HLT.out; have := HNB.out; injection e with e; omega)).trans HN5.out)
                    have HT6 := Lib.hid ((hg.block TB (blk_ltD HX5d.out) (fun e => by have := HM4.out.lt; have := HTB.out; injection e with e; omega)).trans HX5d.out)
                    have HRp6 := Lib.hid (show RepS .i64 (fun b => NB < b) w6 3 t6.args c6 from hr.mono (fun b hb => by have := blk_ltD HN5.out; omega) (fun _ _ _ _ hc => hc) (Nat.le_refl _))
                    have HRq6 := Lib.hid (show RepS .i64 (fun b => NB < b) w6 3 t4.args (.slice ca4 t4.args.length cc4) from HRp5.out.mono2 (fun b off u hb hc => ⟨hb.1, by rw [World.cell?_of_block (a := ⟨b, off, none⟩) (hg.block b (World.block_lt_of_cell? wd ⟨b, off, none⟩ hc) (fun e => by have := HLT.out; have := HNB.out; have := hb.1; injection e with e; omega))]; exact hc⟩) (Nat.le_refl _))
                    obtain ⟨ca6, cc6, hsh⟩ := hr.shape
                    dsimp only at hsh
                    subst hsh
                    clear hf hr hmk hg HCR
                    unfold agg
                    try go_wp2_with fail
                    refine hK.out _ _ (fun _ => (HKT.out _ HT6.out)) ?_
                    clear hK K
                    (try simp only [ptS, stA, st0, stS])
                    refine wpAnyP_ready (rs := [4]) (by kernel_rfl) (by simp) ?_
                    refine (AllReadyP.cons (by simp only [opA, opS, op0]; exact rfl) (fun K hK => ?_) AllReadyP.nil)
                    rw [if_pos (by kernel_rfl)]
                    have HA7 := Lib.hid (more_allocD w6 (.cells #[.int .i64 t4.op, .string t4.name, .int .i64 t4.n, .slice ca4 t4.args.length cc4, .int .i64 t6.op, .string t6.name, .int .i64 t6.n, .slice ca6 t6.args.length cc6] 36))
                    have HB7 := Lib.hid (alloc_last w6 (.cells #[.int .i64 t4.op, .string t4.name, .int .i64 t4.n, .slice ca4 t4.args.length cc4, .int .i64 t6.op, .string t6.name, .int .i64 t6.n, .slice ca6 t6.args.length cc6] 36))
                    obtain ⟨B7, HE7⟩ : ∃ B, Hid (B = w6.heap.size) := ⟨_, Lib.hid rfl⟩
                    go_simp
                    rw [← HE7.out] at HB7 ⊢
                    generalize w6.alloc (.cells #[.int .i64 t4.op, .string t4.name, .int .i64 t4.n, .slice ca4 t4.args.length cc4, .int .i64 t6.op, .string t6.name, .int .i64 t6.n, .slice ca6 t6.args.length cc6] 36) = w7 at *
                    have HM7 := Lib.hid (HM6.out.more HA7.out)
                    have HG7 := Lib.hid (grow_trans HG6.out (grow_more HA7.out))
                    have HN7 := Lib.hid ((HA7.out.block (blk_ltD HN6.out)).trans HN6.out)
                    have HT7 := Lib.hid ((HA7.out.block (blk_ltD HT6.out)).trans HT6.out)
                    have HRQ := Lib.hid (rep2D (S := fun b => NB < b) HB7.out (by rw [HE7.out]; exact blk_ltD HN6.out) HFl4.out (HRq6.out.mono (fun _ k => k) (fun _ _ _ _ hc => HA7.out.cell hc) (Nat.le_refl _)) HFl6.out (HRp6.out.mono (fun _ k => k) (fun _ _ _ _ hc => HA7.out.cell hc) (Nat.le_refl _)))
                    refine hK.out _ _ (fun _ => (HKT.out _ HT7.out)) ?_
                    clear hK K
                    (try simp only [ptS, stA, st0, stS])
                    refine tkS (i := 5) (v := ?_) (by simp only [opA, opS, op0]; exact rfl) (by kernel_rfl) (by kernel_rfl) (HKT.out _ HT7.out) ?_ ?_
                    rotate_left
                    · intro w hS
                      (try dsimp only at hS); first | (go_simp; done) | (go_simp; with_reducible rfl)
                    (try simp only [ptS, stA, st0, stS])
                    refine wpAnyP_ready (rs := [6]) (by kernel_rfl) (by simp) ?_
                    refine (AllReadyP.cons (by simp only [opA, opS, op0]; exact rfl) (fun K hK => ?_) AllReadyP.nil)
                    rw [if_pos (by kernel_rfl)]
                    have n0 : w7.cell? ⟨NB, 0, none⟩ = some (.int .i64 0) := by simp [World.cell?, HN7.out]
                    have f0 := thaw HN7.out 0
                    have n1 : w7.cell? ⟨NB, 1, none⟩ = some (.string ⟨#[]⟩) := by simp [World.cell?, HN7.out]
                    have f1 := thaw HN7.out 1
                    have n2 : w7.cell? ⟨NB, 2, none⟩ = some (.int .i64 0) := by simp [World.cell?, HN7.out]
                    have f2 := thaw HN7.out 2
                    have n3 : w7.cell? ⟨NB, 3, none⟩ = some (.slice none 0 0) := by simp [World.cell?, HN7.out]
                    have f3 := thaw HN7.out 3
                    have hbn := cell_lt n0
                    go_simp
                    refine hK.out _ _ (gone (by kernel_rfl)) ?_
                    clear hK K
                    (try simp only [ptN])
                    refine wpAnyP_done (by kernel_rfl) ?_ _
                    go_wp2_with fail
                    have HW := set4D HN7.out (.int .i64 (16 + v)) (.string ⟨#[]⟩) (.int .i64 0) (.slice (some ⟨B7, 0, none⟩) 2 2)
                    refine bodyPost_ret (v := .agg #[.int .i64 (16 + v), .string ⟨#[]⟩, .int .i64 0, .slice (some ⟨B7, 0, none⟩) 2 2]) (results_cell_row Try.results154 _ _ NB 36 _ (0, 0) _ rfl HW Try.underlying36 rfl (by kernel_rfl)) rfl ?_
                    rw [← HNUM.out]
                    exact exp_fin HNB.out HLT.out HG7.out HM7.out HN7.out (flds_small (by omega) (by omega) (by omega) (by omega) (by decide) (by simp)) (repUp HRQ.out (by omega))
                · rcases hH1 with ⟨hdp, hk4⟩ | hdp
                  · omega
                  · skip
                    have hdb := Lib.hid HF.out
                    go_wp2_with fail
                    refine HCB.out.mono ?_
                    rintro e w3 ⟨rfl, hmk, hg⟩
                    have HM3 := Lib.hid hmk
                    have HG3 := Lib.hid (grow_trans HG2.out hg)
                    have HN3 := Lib.hid ((hg.block NB (blk_ltD HN2.out) (fun e => by have := HLT.out; have := HNB.out; injection e with e; omega)).trans HN2.out)
                    clear hmk hg
                    have HNP := Lib.hid HN3.out
                    have HCR := Lib.hid (number_any 3 MB d prm left 1 l2 w3 HM3.out HD.out (by omega) (by omega) (by omega))
                    obtain ⟨t4, l4, hR⟩ : ∃ t r, numF d prm 3 1 l2 = (t, r) := ⟨_, _, rfl⟩
                    rw [hR] at HCR HNUM
                    dsimp only at HNUM
                    clear hR
                    go_wp2_with fail
                    refine HCR.out.mono ?_
                    rintro e w4 ⟨c4, rfl, hf, hr, hmk, hg⟩
                    have HFl4 := Lib.hid hf
                    have HRp4 := Lib.hid hr
                    have HM4 := Lib.hid hmk
                    have HG4 := Lib.hid (grow_trans HG3.out hg)
                    have HGl4 := Lib.hid hg
                    have HN4 := Lib.hid ((hg.block NB (blk_ltD HN3.out) (fun e => by have := HLT.out; have := HNB.out; injection e with e; omega)).trans HN3.out)
                    obtain ⟨ca4, cc4, hsh⟩ := hr.shape
                    dsimp only at hsh
                    subst hsh
                    clear hf hr hmk hg HCR
                    unfold agg
                    have hdp9 : dp ≤ 3 := by have := HF.out; omega
                    have HA5 := Lib.hid (more_allocD w4 (.cells #[.int .i64 t4.op, .string t4.name, .int .i64 t4.n, .slice ca4 t4.args.length cc4] 36))
                    have HX5 := Lib.hid (alloc_last w4 (.cells #[.int .i64 t4.op, .string t4.name, .int .i64 t4.n, .slice ca4 t4.args.length cc4] 36))
                    go_upto_region 17 with fail
                    generalize w4.alloc (.cells #[.int .i64 t4.op, .string t4.name, .int .i64 t4.n, .slice ca4 t4.args.length cc4] 36) = w5 at *
                    obtain ⟨TB, HTB⟩ : ∃ B, Hid (B = w4.heap.size) := ⟨_, Lib.hid rfl⟩
                    rw [← HTB.out] at HX5 ⊢
                    have HM5 := Lib.hid (HM4.out.more (more_trans HA5.out (more_drew w5)))
                    have HG5 := Lib.hid (grow_trans HG4.out (grow_more (more_trans HA5.out (more_drew w5))))
                    have HN5 := Lib.hid (show w5.drew.heap[NB]? = _ from (HA5.out.block (blk_ltD HN4.out)).trans HN4.out)
                    have HX5d := Lib.hid (show w5.drew.heap[TB]? = _ from HX5.out)
                    have HRp5 := Lib.hid (show RepS .i64 (fun b => NB < b ∧ b < TB) w5.drew 3 t4.args (.slice ca4 t4.args.length cc4) from HRp4.out.mono2 (fun b off u hb hc => ⟨⟨by have := blk_ltD HNP.out; omega, by have h8 : b < w4.heap.size := World.block_lt_of_cell? w4 ⟨b, off, none⟩ hc; have := HTB.out; omega⟩, (more_trans HA5.out (more_drew w5)).cell hc⟩) (Nat.le_refl _))
                    have HKT := Lib.hid (show ∀ W : World, W.heap[TB]? = some (.cells #[.int .i64 t4.op, .string t4.name, .int .i64 t4.n, .slice ca4 t4.args.length cc4] 36) → (W.cell? ⟨TB, 0, none⟩ = some (.int .i64 t4.op) ∧ W.cell? ⟨TB, 1, none⟩ = some (.string t4.name) ∧ W.cell? ⟨TB, 2, none⟩ = some (.int .i64 t4.n) ∧ W.cell? ⟨TB, 3, none⟩ = some (.slice ca4 t4.args.length cc4)) from fun W h => ⟨by simp [World.cell?, h], by simp [World.cell?, h], by simp [World.cell?, h], by simp [World.cell?, h]⟩)
                    have hbt := blk_ltD HX5d.out
                    have hwr : IntKind.i64.wrap (dp + 1) = dp + 1 := by rw [IntKind.wrap_i64]; omega
                    refine wp_region_heldP (S := fun W => W.cell? ⟨TB, 0, none⟩ = some (.int .i64 t4.op) ∧ W.cell? ⟨TB, 1, none⟩ = some (.string t4.name) ∧ W.cell? ⟨TB, 2, none⟩ = some (.int .i64 t4.n) ∧ W.cell? ⟨TB, 3, none⟩ = some (.slice ca4 t4.args.length cc4)) 6 (by kernel_rfl) ?_
                    generalize w5.drew = wd at *
                    refine tkS (i := 0) (v := ?_) (by simp only [opA, op0]; exact rfl) (by kernel_rfl) (by kernel_rfl) (HKT.out _ HX5d.out) ?_ ?_
                    rotate_left
                    · intro w hS
                      (try dsimp only at hS); first | (go_simp; done) | (go_simp; with_reducible rfl)
                    (try simp only [ptS, stA, st0, stS])
                    refine tkS (i := 1) (v := ?_) (by simp only [opA, opS, op0]; exact rfl) (by kernel_rfl) (by kernel_rfl) (HKT.out _ HX5d.out) ?_ ?_
                    rotate_left
                    · intro w hS
                      (try dsimp only at hS); first | (go_simp; done) | (go_simp; with_reducible rfl)
                    (try simp only [ptS, stA, st0, stS])
                    refine tkS (i := 2) (v := ?_) (by simp only [opA, opS, op0]; exact rfl) (by kernel_rfl) (by kernel_rfl) (HKT.out _ HX5d.out) ?_ ?_
                    rotate_left
                    · intro w hS
                      (try dsimp only at hS); first | (go_simp; done) | (go_simp; with_reducible rfl)
                    (try simp only [ptS, stA, st0, stS])
                    refine wpAnyP_ready (rs := [3]) (by kernel_rfl) (by simp) ?_
                    refine (AllReadyP.cons (by simp only [opA, opS, op0]; exact rfl) (fun K hK => ?_) AllReadyP.nil)
                    rw [if_pos (by kernel_rfl)]
                    have HCR := Lib.hid (number_any 3 MB d prm left 1 l4 wd HM5.out HD.out (by omega) (by omega) (by omega))
                    obtain ⟨t6, l6, hR⟩ : ∃ t r, numF d prm 3 1 l4 = (t, r) := ⟨_, _, rfl⟩
                    rw [hR] at HCR HNUM
                    dsimp only at HNUM
                    clear hR
                    go_simp
                    refine HCR.out.mono ?_
                    rintro e w6 ⟨c6, rfl, hf, hr, hmk, hg⟩
                    have HFl6 := Lib.hid hf
                    have HM6 := Lib.hid hmk
                    have HG6 := Lib.hid (grow_trans HG5.out hg)
                    have HN6 := Lib.hid ((hg.block NB (blk_ltD HN5.out) (fun e => by have := HLT.out; have := HNB.out; injection e with e; omega)).trans HN5.out)
                    have HT6 := Lib.hid ((hg.block TB (blk_ltD HX5d.out) (fun e => by have := HM4.out.lt; have := HTB.out; injection e with e; omega)).trans HX5d.out)
                    have HRp6 := Lib.hid (show RepS .i64 (fun b => NB < b) w6 3 t6.args c6 from hr.mono (fun b hb => by have := blk_ltD HN5.out; omega) (fun _ _ _ _ hc => hc) (Nat.le_refl _))
                    have HRq6 := Lib.hid (show RepS .i64 (fun b => NB < b) w6 3 t4.args (.slice ca4 t4.args.length cc4) from HRp5.out.mono2 (fun b off u hb hc => ⟨hb.1, by rw [World.cell?_of_block (a := ⟨b, off, none⟩) (hg.block b (World.block_lt_of_cell? wd ⟨b, off, none⟩ hc) (fun e => by have := HLT.out; have := HNB.out; have := hb.1; injection e with e; omega))]; exact hc⟩) (Nat.le_refl _))
                    obtain ⟨ca6, cc6, hsh⟩ := hr.shape
                    dsimp only at hsh
                    subst hsh
                    clear hf hr hmk hg HCR
                    unfold agg
                    try go_wp2_with fail
                    refine hK.out _ _ (fun _ => (HKT.out _ HT6.out)) ?_
                    clear hK K
                    (try simp only [ptS, stA, st0, stS])
                    refine wpAnyP_ready (rs := [4]) (by kernel_rfl) (by simp) ?_
                    refine (AllReadyP.cons (by simp only [opA, opS, op0]; exact rfl) (fun K hK => ?_) AllReadyP.nil)
                    rw [if_pos (by kernel_rfl)]
                    have HA7 := Lib.hid (more_allocD w6 (.cells #[.int .i64 t4.op, .string t4.name, .int .i64 t4.n, .slice ca4 t4.args.length cc4, .int .i64 t6.op, .string t6.name, .int .i64 t6.n, .slice ca6 t6.args.length cc6] 36))
                    have HB7 := Lib.hid (alloc_last w6 (.cells #[.int .i64 t4.op, .string t4.name, .int .i64 t4.n, .slice ca4 t4.args.length cc4, .int .i64 t6.op, .string t6.name, .int .i64 t6.n, .slice ca6 t6.args.length cc6] 36))
                    obtain ⟨B7, HE7⟩ : ∃ B, Hid (B = w6.heap.size) := ⟨_, Lib.hid rfl⟩
                    go_simp
                    rw [← HE7.out] at HB7 ⊢
                    generalize w6.alloc (.cells #[.int .i64 t4.op, .string t4.name, .int .i64 t4.n, .slice ca4 t4.args.length cc4, .int .i64 t6.op, .string t6.name, .int .i64 t6.n, .slice ca6 t6.args.length cc6] 36) = w7 at *
                    have HM7 := Lib.hid (HM6.out.more HA7.out)
                    have HG7 := Lib.hid (grow_trans HG6.out (grow_more HA7.out))
                    have HN7 := Lib.hid ((HA7.out.block (blk_ltD HN6.out)).trans HN6.out)
                    have HT7 := Lib.hid ((HA7.out.block (blk_ltD HT6.out)).trans HT6.out)
                    have HRQ := Lib.hid (rep2D (S := fun b => NB < b) HB7.out (by rw [HE7.out]; exact blk_ltD HN6.out) HFl4.out (HRq6.out.mono (fun _ k => k) (fun _ _ _ _ hc => HA7.out.cell hc) (Nat.le_refl _)) HFl6.out (HRp6.out.mono (fun _ k => k) (fun _ _ _ _ hc => HA7.out.cell hc) (Nat.le_refl _)))
                    refine hK.out _ _ (fun _ => (HKT.out _ HT7.out)) ?_
                    clear hK K
                    (try simp only [ptS, stA, st0, stS])
                    refine tkS (i := 5) (v := ?_) (by simp only [opA, opS, op0]; exact rfl) (by kernel_rfl) (by kernel_rfl) (HKT.out _ HT7.out) ?_ ?_
                    rotate_left
                    · intro w hS
                      (try dsimp only at hS); first | (go_simp; done) | (go_simp; with_reducible rfl)
                    (try simp only [ptS, stA, st0, stS])
                    refine wpAnyP_ready (rs := [6]) (by kernel_rfl) (by simp) ?_
                    refine (AllReadyP.cons (by simp only [opA, opS, op0]; exact rfl) (fun K hK => ?_) AllReadyP.nil)
                    rw [if_pos (by kernel_rfl)]
                    have n0 : w7.cell? ⟨NB, 0, none⟩ = some (.int .i64 0) := by simp [World.cell?, HN7.out]
                    have f0 := thaw HN7.out 0
                    have n1 : w7.cell? ⟨NB, 1, none⟩ = some (.string ⟨#[]⟩) := by simp [World.cell?, HN7.out]
                    have f1 := thaw HN7.out 1
                    have n2 : w7.cell? ⟨NB, 2, none⟩ = some (.int .i64 0) := by simp [World.cell?, HN7.out]
                    have f2 := thaw HN7.out 2
                    have n3 : w7.cell? ⟨NB, 3, none⟩ = some (.slice none 0 0) := by simp [World.cell?, HN7.out]
                    have f3 := thaw HN7.out 3
                    have hbn := cell_lt n0
                    go_simp
                    refine hK.out _ _ (gone (by kernel_rfl)) ?_
                    clear hK K
                    (try simp only [ptN])
                    refine wpAnyP_done (by kernel_rfl) ?_ _
                    go_wp2_with fail
                    have HW := set4D HN7.out (.int .i64 (16 + v)) (.string ⟨#[]⟩) (.int .i64 0) (.slice (some ⟨B7, 0, none⟩) 2 2)
                    refine bodyPost_ret (v := .agg #[.int .i64 (16 + v), .string ⟨#[]⟩, .int .i64 0, .slice (some ⟨B7, 0, none⟩) 2 2]) (results_cell_row Try.results154 _ _ NB 36 _ (0, 0) _ rfl HW Try.underlying36 rfl (by kernel_rfl)) rfl ?_
                    rw [← HNUM.out]
                    exact exp_fin HNB.out HLT.out HG7.out HM7.out HN7.out (flds_small (by omega) (by omega) (by omega) (by omega) (by decide) (by simp)) (repUp HRQ.out (by omega))
end Go.Proofs.Ytekhoanjpnjaeaa

