/- Texts MkI, laid together. -/
import Derived.Test.YtekhoanjpnjaeaaNx
/- (*maker).stmt (141): the arms k = 8 and 9. -/
namespace Go.Proofs.Ytekhoanjpnjaeaa
open Go.RowKit
set_option maxRecDepth 100000 in
set_option maxHeartbeats 4000000 in
theorem stmt8_any (MB : Nat) (d : MkD) (prm left dp : Int) (l : List Int) (w : World) (h : MkAt w MB d prm left l) (hd : d.Ok prm) (hfl : 0 ≤ d.flags ∧ d.flags ≤ 2) (har : ArOk w MB d) (hl0 : 0 ≤ left) (hl9 : left ≤ 12) :
    Calls Try.prog 141 #[.pointer (some ⟨MB, 0, none⟩), .int .i64 8, .int .i64 dp] w fun e w' => ∃ cs left' l', e = .returned (.agg cs.toArray) ∧ StmtC (fun b => w.heap.size ≤ b) w' cs ∧ MkAt w' MB d prm left' l' ∧ 0 ≤ left' ∧ left' ≤ left ∧ w.grownBy w' (some MB) := by
  have HD := Lib.hid hd
  have HFG := Lib.hid hfl
  have HLL := Lib.hid (And.intro hl0 hl9)
  have HA := Lib.hid (more_allocD w (.cells #[.int .i64 0, .string ⟨#[]⟩, .string ⟨#[]⟩, .slice none 0 0, .slice none 0 0, .slice none 0 0] 128))
  have HN1 := Lib.hid (alloc_last w (.cells #[.int .i64 0, .string ⟨#[]⟩, .string ⟨#[]⟩, .slice none 0 0, .slice none 0 0, .slice none 0 0] 128))
  have HM1 := Lib.hid (h.more HA.out)
  have HLT := Lib.hid h.lt
  have HAR := Lib.hid har
  clear h hd hfl har hl0 hl9
  obtain ⟨NB, HNB⟩ : ∃ B, Hid (B = w.heap.size) := ⟨_, Lib.hid rfl⟩
  rw [← HNB.out] at HN1
  have HG1 := Lib.hid (show w.grownBy _ (some MB) from grow_more (B := MB) HA.out)
  clear HFG
  obtain ⟨ab, ao, an, ac, hda, hn3, ho0, hoa, hab, hrows⟩ := HAR.out
  have HAB := Lib.hid hab
  have HAN := Lib.hid (And.intro hn3 (And.intro ho0 hoa))
  have HROWS := Lib.hid hrows
  have HDA := Lib.hid hda
  clear hab hrows hda hn3 ho0 hoa
  have e4 := HM1.out.c34.2
  rw [HDA.out] at e4
  have hbm := cell_lt e4
  have HC1 := Lib.hid (next_any MB d prm left (an : Int) l _ HM1.out (by have := HAN.out; omega) (by have := HAN.out; omega))
  have HR1 := Lib.hid (nextB_rng l (n := (an : Int)) (by have := HAN.out; omega))
  obtain ⟨r1, HRE1⟩ : ∃ r : Nat, Hid ((nextB l an).1 = r) := ⟨(nextB l an).1.toNat, Lib.hid (by have := HR1.out; omega)⟩
  obtain ⟨l2, HL2⟩ : ∃ s, Hid ((nextB l an).2 = s) := ⟨_, Lib.hid rfl⟩
  rw [HRE1.out] at HR1
  rw [HRE1.out, HL2.out] at HC1
  clear HRE1 HL2
  go_enter Try.func141, Try.ntmps141
  go_wp2_with fail
  rw [← HNB.out]
  generalize w.alloc (.cells #[.int .i64 0, .string ⟨#[]⟩, .string ⟨#[]⟩, .slice none 0 0, .slice none 0 0, .slice none 0 0] 128) = w1 at *
  refine HC1.out.mono ?_
  rintro e w2 ⟨rfl, hmk, hg⟩
  have HM2 := Lib.hid hmk
  have HG2 := Lib.hid (grow_trans HG1.out hg)
  have HN2 := Lib.hid ((hg.block NB (blk_ltD HN1.out) (fun e => by have := HLT.out; have := HNB.out; injection e with e; omega)).trans HN1.out)
  clear hmk hg HC1 e4 hbm
  have HLR1 := Lib.hid (show r1 < an from by have := HR1.out; omega)
  have HR3 := Lib.hid (show r1 < 3 from by have := HLR1.out; have := HAN.out; omega)
  obtain ⟨rv, hrv, hro⟩ := HROWS.out r1 HLR1.out
  obtain ⟨rb, ro, rm, rc, rfl, hm1, hm3, hrb, hxs⟩ := hro.at
  have HRM := Lib.hid (And.intro hm1 hm3)
  have HRB := Lib.hid hrb
  have HXS := Lib.hid hxs
  have HRV := Lib.hid hrv
  clear hrv hro hm1 hm3 hrb hxs
  have e4 := HM2.out.c34.2
  rw [HDA.out] at e4
  have hbm := cell_lt e4
  have hll : (r1 : Int) < (an : Int) := by have := HLR1.out; omega
  have hll2 : r1 < an := HLR1.out
  have hW2 : ∀ x u, x.block < MB → w.cell? x = some u → w2.cell? x = some u := fun x u hx hc => cell_grown (Nat.ne_of_lt hx) HG2.out hc
  have e5 := hW2 _ _ HAB.out HRV.out
  have hba := cell_lt e5
  have HC1 := Lib.hid (next_any MB d prm left (rm : Int) l2 w2 HM2.out (by have := HRM.out; omega) (by have := HRM.out; omega))
  have HR1 := Lib.hid (nextB_rng l2 (n := (rm : Int)) (by have := HRM.out; omega))
  obtain ⟨r2, HRE1⟩ : ∃ r : Nat, Hid ((nextB l2 rm).1 = r) := ⟨(nextB l2 rm).1.toNat, Lib.hid (by have := HR1.out; omega)⟩
  obtain ⟨l3, HL3⟩ : ∃ s, Hid ((nextB l2 rm).2 = s) := ⟨_, Lib.hid rfl⟩
  rw [HRE1.out] at HR1
  rw [HRE1.out, HL3.out] at HC1
  clear HRE1 HL3 hW2
  go_wp2_with fail
  refine HC1.out.mono ?_
  rintro e w3 ⟨rfl, hmk, hg⟩
  have HM3 := Lib.hid hmk
  have HG3 := Lib.hid (grow_trans HG2.out hg)
  have HN3 := Lib.hid ((hg.block NB (blk_ltD HN2.out) (fun e => by have := HLT.out; have := HNB.out; injection e with e; omega)).trans HN2.out)
  clear hmk hg HC1 e4 hbm e5 hba
  have HLR2 := Lib.hid (show r2 < rm from by have := HR1.out; omega)
  have HR4 := Lib.hid (show r2 < 3 from by have := HLR2.out; have := HRM.out; omega)
  obtain ⟨xn, hxc, hx2⟩ := HXS.out r2 HLR2.out
  have HXN := Lib.hid hx2
  have HXC := Lib.hid hxc
  clear hxc hx2
  have hlm : (r2 : Int) < (rm : Int) := by have := HLR2.out; omega
  have hlm2 : r2 < rm := HLR2.out
  have h13 : r1 < 3 := HR3.out
  have h23 : r2 < 3 := HR4.out
  have h13i : (r1 : Int) < 3 := by omega
  have h23i : (r2 : Int) < 3 := by omega
  go_upto_region 17 with fail
  have HDR := Lib.hid (more_drew w3)
  refine wp_region_heldP (S := fun W => W.cell? ⟨MB, 4, none⟩ = some (.slice (some ⟨ab, ao, none⟩) an ac) ∧ W.cell? ⟨ab, ao + r1, none⟩ = some (.slice (some ⟨rb, ro, none⟩) rm rc) ∧ W.cell? ⟨rb, ro + r2, none⟩ = some (.int .i64 (xn : Int))) 21 (by kernel_rfl) ?_
  generalize w3.drew = w90 at *
  have HG90 := Lib.hid (grow_trans HG3.out (grow_more HDR.out))
  have HN90 := Lib.hid ((HDR.out.block (blk_ltD HN3.out)).trans HN3.out)
  have HM90 := Lib.hid (HM3.out.more HDR.out)
  have HK90 := Lib.hid (show w90.cell? ⟨MB, 4, none⟩ = some (.slice (some ⟨ab, ao, none⟩) an ac) ∧ w90.cell? ⟨ab, ao + r1, none⟩ = some (.slice (some ⟨rb, ro, none⟩) rm rc) ∧ w90.cell? ⟨rb, ro + r2, none⟩ = some (.int .i64 (xn : Int)) from ⟨by have h := HM90.out.c34.2; rw [HDA.out] at h; exact h, HDR.out.cell (cell_grown (Nat.ne_of_lt HAB.out) HG3.out HRV.out), HDR.out.cell (cell_grown (Nat.ne_of_lt HRB.out) HG3.out HXC.out)⟩)
  have hs1 := cell_lt HK90.out.1
  have hs2 := cell_lt HK90.out.2.1
  have hs3 := cell_lt HK90.out.2.2
  refine tkS (i := 1) (v := ?_) (by simp only [opA, opS, op0]; exact rfl) (by kernel_rfl) (by kernel_rfl) HK90.out ?_ ?_
  rotate_left
  · intro w hS
    (try dsimp only at hS); first | (go_simp; done) | (go_simp; with_reducible rfl)
  (try simp only [ptS, stA, st0, stS])
  refine tkS (i := 5) (v := ?_) (by simp only [opA, opS, op0]; exact rfl) (by kernel_rfl) (by kernel_rfl) HK90.out ?_ ?_
  rotate_left
  · intro w hS
    (try dsimp only at hS); first | (go_simp; done) | (go_simp; with_reducible rfl)
  (try simp only [ptS, stA, st0, stS])
  refine tkS (i := 8) (v := ?_) (by simp only [opA, opS, op0]; exact rfl) (by kernel_rfl) (by kernel_rfl) HK90.out ?_ ?_
  rotate_left
  · intro w hS
    (try dsimp only at hS); first | (go_simp; done) | (go_simp; with_reducible rfl)
  (try simp only [ptS, stA, st0, stS])
  refine tkS (i := 9) (v := ?_) (by simp only [opA, opS, op0]; exact rfl) (by kernel_rfl) (by kernel_rfl) HK90.out ?_ ?_
  rotate_left
  · intro w hS
    (try dsimp only at hS); first | (go_simp; done) | (go_simp; with_reducible rfl)
  (try simp only [ptS, stA, st0, stS])
  refine tkS (i := 10) (v := ?_) (by simp only [opA, opS, op0]; exact rfl) (by kernel_rfl) (by kernel_rfl) HK90.out ?_ ?_
  rotate_left
  · intro w hS
    (try dsimp only at hS); first | (go_simp; done) | (go_simp; with_reducible rfl)
  (try simp only [ptS, stA, st0, stS])
  refine tkS (i := 11) (v := ?_) (by simp only [opA, opS, op0]; exact rfl) (by kernel_rfl) (by kernel_rfl) HK90.out ?_ ?_
  rotate_left
  · intro w hS
    (try dsimp only at hS); first | (go_simp; done) | (go_simp; with_reducible rfl)
  (try simp only [ptS, stA, st0, stS])
  refine tkS (i := 12) (v := ?_) (by simp only [opA, opS, op0]; exact rfl) (by kernel_rfl) (by kernel_rfl) HK90.out ?_ ?_
  rotate_left
  · intro w hS
    (try dsimp only at hS); first | (go_simp; done) | (go_simp; with_reducible rfl)
  (try simp only [ptS, stA, st0, stS])
  refine tkS (i := 13) (v := ?_) (by simp only [opA, opS, op0]; exact rfl) (by kernel_rfl) (by kernel_rfl) HK90.out ?_ ?_
  rotate_left
  · intro w hS
    (try dsimp only at hS); first | (go_simp; done) | (go_simp; with_reducible rfl)
  (try simp only [ptS, stA, st0, stS])
  refine tkS (i := 14) (v := ?_) (by simp only [opA, opS, op0]; exact rfl) (by kernel_rfl) (by kernel_rfl) HK90.out ?_ ?_
  rotate_left
  · intro w hS
    (try dsimp only at hS); first | (go_simp; done) | (go_simp; with_reducible rfl)
  (try simp only [ptS, stA, st0, stS])
  refine tkS (i := 15) (v := ?_) (by simp only [opA, opS, op0]; exact rfl) (by kernel_rfl) (by kernel_rfl) HK90.out ?_ ?_
  rotate_left
  · intro w hS
    (try dsimp only at hS); first | (go_simp; done) | (go_simp; with_reducible rfl)
  (try simp only [ptS, stA, st0, stS])
  refine tkS (i := 16) (v := ?_) (by simp only [opA, opS, op0]; exact rfl) (by kernel_rfl) (by kernel_rfl) HK90.out ?_ ?_
  rotate_left
  · intro w hS
    (try dsimp only at hS); first | (go_simp; done) | (go_simp; with_reducible rfl)
  (try simp only [ptS, stA, st0, stS])
  refine tkS (i := 17) (v := ?_) (by simp only [opA, opS, op0]; exact rfl) (by kernel_rfl) (by kernel_rfl) HK90.out ?_ ?_
  rotate_left
  · intro w hS
    (try dsimp only at hS); first | (go_simp; done) | (go_simp; with_reducible rfl)
  (try simp only [ptS, stA, st0, stS])
  refine tkS (i := 18) (v := ?_) (by simp only [opA, opS, op0]; exact rfl) (by kernel_rfl) (by kernel_rfl) HK90.out ?_ ?_
  rotate_left
  · intro w hS
    (try dsimp only at hS); first | (go_simp; done) | (go_simp; with_reducible rfl)
  (try simp only [ptS, stA, st0, stS])
  refine wpAnyP_ready (rs := [0, 4]) (by kernel_rfl) (by simp) ?_
  refine (AllReadyP.cons (by simp only [opA, op0]; exact rfl) (fun K hK => ?_) (AllReadyP.cons (by simp only [opA, opS, op0]; exact rfl) (fun K hK => ?_) AllReadyP.nil))
  · rw [if_pos (by kernel_rfl)]
    have HY91 := Lib.hid (more_allocD w90 (.cells #[.string ⟨#[97]⟩, .string ⟨#[98]⟩, .string ⟨#[99]⟩] 9))
    have HGB91 := Lib.hid (alloc_last w90 (.cells #[.string ⟨#[97]⟩, .string ⟨#[98]⟩, .string ⟨#[99]⟩] 9))
    obtain ⟨GB, HGE⟩ : ∃ B, Hid (B = w90.heap.size) := ⟨_, Lib.hid rfl⟩
    go_simp
    rw [← HGE.out] at HGB91
    try rw [← HGE.out]
    generalize w90.alloc (.cells #[.string ⟨#[97]⟩, .string ⟨#[98]⟩, .string ⟨#[99]⟩] 9) = w91 at *
    have HGBN := Lib.hid (show MB < GB from by have := blk_ltD HN90.out; have := HLT.out; have := HNB.out; have := HGE.out; omega)
    have HG91 := Lib.hid (grow_trans HG90.out (grow_more HY91.out))
    have HN91 := Lib.hid ((HY91.out.block (blk_ltD HN90.out)).trans HN90.out)
    have HM91 := Lib.hid (HM90.out.more HY91.out)
    have HK91 := Lib.hid (show (w91.cell? ⟨MB, 4, none⟩ = some (.slice (some ⟨ab, ao, none⟩) an ac) ∧ w91.cell? ⟨ab, ao + r1, none⟩ = some (.slice (some ⟨rb, ro, none⟩) rm rc) ∧ w91.cell? ⟨rb, ro + r2, none⟩ = some (.int .i64 (xn : Int))) ∧ w91.cell? ⟨GB, r1, none⟩ = some (.string (abcB r1)) from ⟨⟨HY91.out.cell HK90.out.1, HY91.out.cell HK90.out.2.1, HY91.out.cell HK90.out.2.2⟩, abc_cell HGB91.out HR3.out⟩)
    have hs4 := cell_lt HK91.out.2
    refine hK.out _ _ (fun _ => HK91.out.1) ?_
    clear hK K
    (try simp only [ptS, stA, st0, stS])
    refine wpAnyP_str (S' := fun W => (W.cell? ⟨MB, 4, none⟩ = some (.slice (some ⟨ab, ao, none⟩) an ac) ∧ W.cell? ⟨ab, ao + r1, none⟩ = some (.slice (some ⟨rb, ro, none⟩) rm rc) ∧ W.cell? ⟨rb, ro + r2, none⟩ = some (.int .i64 (xn : Int))) ∧ W.cell? ⟨GB, r1, none⟩ = some (.string (abcB r1))) (fun _ h => h.1) ?_
    refine tkS (i := 2) (v := ?_) (by simp only [opA, opS, op0]; exact rfl) (by kernel_rfl) (by kernel_rfl) HK91.out ?_ ?_
    rotate_left
    · intro w hS
      (try dsimp only at hS); first | (go_simp; done) | (go_simp; with_reducible rfl)
    (try simp only [ptS, stA, st0, stS])
    refine tkS (i := 3) (v := ?_) (by simp only [opA, opS, op0]; exact rfl) (by kernel_rfl) (by kernel_rfl) HK91.out ?_ ?_
    rotate_left
    · intro w hS
      (try dsimp only at hS); first | (go_simp; done) | (go_simp; with_reducible rfl)
    (try simp only [ptS, stA, st0, stS])
    refine wpAnyP_ready (rs := [4]) (by kernel_rfl) (by simp) ?_
    refine (AllReadyP.cons (by simp only [opA, opS, op0]; exact rfl) (fun K hK => ?_) AllReadyP.nil)
    rw [if_pos (by kernel_rfl)]
    have HC := Lib.hid (names_any 104 3 104 3 w91 rfl rfl (by omega) (by omega))
    go_simp
    refine HC.out.mono ?_
    rintro e w92 ⟨⟨nv, rfl, ho⟩, hm⟩
    have HX92 := Lib.hid hm
    obtain ⟨nb, nc, rfl, hnb, hnx⟩ := name_cell ho (r := r2) (by have := HR4.out; omega)
    have HNGE := Lib.hid hnb
    have HNBE := Lib.hid (show MB < nb from by have := blk_ltD HN91.out; have := HLT.out; have := HNB.out; omega)
    have HNC92 := Lib.hid hnx
    clear ho hm HC hnb hnx
    have HG92 := Lib.hid (grow_trans HG91.out (grow_more HX92.out))
    have HN92 := Lib.hid ((HX92.out.block (blk_ltD HN91.out)).trans HN91.out)
    have HM92 := Lib.hid (HM91.out.more HX92.out)
    have HK92 := Lib.hid (show ((w92.cell? ⟨MB, 4, none⟩ = some (.slice (some ⟨ab, ao, none⟩) an ac) ∧ w92.cell? ⟨ab, ao + r1, none⟩ = some (.slice (some ⟨rb, ro, none⟩) rm rc) ∧ w92.cell? ⟨rb, ro + r2, none⟩ = some (.int .i64 (xn : Int))) ∧ w92.cell? ⟨GB, r1, none⟩ = some (.string (abcB r1))) ∧ w92.cell? ⟨nb, r2, none⟩ = some (.string (nmB 104 r2)) from ⟨⟨⟨HX92.out.cell HK91.out.1.1, HX92.out.cell HK91.out.1.2.1, HX92.out.cell HK91.out.1.2.2⟩, HX92.out.cell HK91.out.2⟩, HNC92.out⟩)
    have hs5 := cell_lt HK92.out.2
    try go_wp2_with fail
    refine hK.out _ _ (fun _ => HK92.out.1) ?_
    clear hK K
    (try simp only [ptS, stA, st0, stS])
    refine wpAnyP_str (S' := fun W => ((W.cell? ⟨MB, 4, none⟩ = some (.slice (some ⟨ab, ao, none⟩) an ac) ∧ W.cell? ⟨ab, ao + r1, none⟩ = some (.slice (some ⟨rb, ro, none⟩) rm rc) ∧ W.cell? ⟨rb, ro + r2, none⟩ = some (.int .i64 (xn : Int))) ∧ W.cell? ⟨GB, r1, none⟩ = some (.string (abcB r1))) ∧ W.cell? ⟨nb, r2, none⟩ = some (.string (nmB 104 r2))) (fun _ h => h.1) ?_
    refine tkS (i := 6) (v := ?_) (by simp only [opA, opS, op0]; exact rfl) (by kernel_rfl) (by kernel_rfl) HK92.out ?_ ?_
    rotate_left
    · intro w hS
      (try dsimp only at hS); first | (go_simp; done) | (go_simp; with_reducible rfl)
    (try simp only [ptS, stA, st0, stS])
    refine tkS (i := 7) (v := ?_) (by simp only [opA, opS, op0]; exact rfl) (by kernel_rfl) (by kernel_rfl) HK92.out ?_ ?_
    rotate_left
    · intro w hS
      (try dsimp only at hS); first | (go_simp; done) | (go_simp; with_reducible rfl)
    (try simp only [ptS, stA, st0, stS])
    refine wpAnyP_ready (rs := [19]) (by kernel_rfl) (by simp) ?_
    refine (AllReadyP.cons (by simp only [opA, opS, op0]; exact rfl) (fun K hK => ?_) AllReadyP.nil)
    rw [if_pos (by kernel_rfl)]
    have HCR := Lib.hid (numbers_any MB d prm left xn l3 w92 HM92.out HD.out (by have := HXN.out; omega))
    obtain ⟨ts, l4, hR⟩ : ∃ t r, numsF d prm xn l3 = (t, r) := ⟨_, _, rfl⟩
    have HFOT := Lib.hid (show ∀ t ∈ ts, t.formed = true by have := numsF_formed d prm l3 xn; rw [hR] at this; exact this)
    have HLN := Lib.hid (show ∀ L : List Ex, L = ts → L.length ≤ 3 from fun L e => by rw [e]; have h := numsF_len d prm l3 xn; rw [hR] at h; have h2 := HXN.out; have h3 : ts.length = xn := h; omega)
    rw [hR] at HCR
    clear hR
    dsimp only at HCR
    go_simp
    refine HCR.out.mono ?_
    rintro e w93 ⟨c3, rfl, hr, hmk, hg⟩
    have HM93 := Lib.hid hmk
    have HG93 := Lib.hid (grow_trans HG92.out hg)
    have HN93 := Lib.hid ((hg.block NB (blk_ltD HN92.out) (fun e => by have := HLT.out; have := HNB.out; injection e with e; omega)).trans HN92.out)
    have HT93 := Lib.hid (show RepS .i64 (fun b => NB < b) w93 4 ts c3 from hr.mono (fun b hb => by have h9 : w92.heap.size ≤ b := hb; have := blk_ltD HN92.out; omega) (fun _ _ _ _ hc => hc) (Nat.le_refl _))
    have HFLT := Lib.hid hr.flds
    have HK93 := Lib.hid (show ((w93.cell? ⟨MB, 4, none⟩ = some (.slice (some ⟨ab, ao, none⟩) an ac) ∧ w93.cell? ⟨ab, ao + r1, none⟩ = some (.slice (some ⟨rb, ro, none⟩) rm rc) ∧ w93.cell? ⟨rb, ro + r2, none⟩ = some (.int .i64 (xn : Int))) ∧ w93.cell? ⟨GB, r1, none⟩ = some (.string (abcB r1))) ∧ w93.cell? ⟨nb, r2, none⟩ = some (.string (nmB 104 r2)) from ⟨⟨⟨(by have h := HM93.out.c34.2; rw [HDA.out] at h; exact h), cell_grown (Nat.ne_of_lt HAB.out) hg HK92.out.1.1.2.1, cell_grown (Nat.ne_of_lt HRB.out) hg HK92.out.1.1.2.2⟩, cell_grown (Nat.ne_of_gt HGBN.out) hg HK92.out.1.2⟩, cell_grown (Nat.ne_of_gt HNBE.out) hg HK92.out.2⟩)
    obtain ⟨ca3, cc3, hsh⟩ := hr.shape
    subst hsh
    generalize hlen : ts.length = tn at *
    clear hlen hr hmk hg HCR
    try go_wp2_with fail
    refine hK.out _ _ (fun _ => HK93.out) ?_
    clear hK K
    (try simp only [ptS, stA, st0, stS])
    refine tkS (i := 20) (v := ?_) (by simp only [opA, opS, op0]; exact rfl) (by kernel_rfl) (by kernel_rfl) HK93.out ?_ ?_
    rotate_left
    · intro w hS
      (try dsimp only at hS); first | (go_simp; done) | (go_simp; with_reducible rfl)
    (try simp only [ptS, stA, st0, stS])
    refine wpAnyP_ready (rs := [21]) (by kernel_rfl) (by simp) ?_
    refine (AllReadyP.cons (by simp only [opA, opS, op0]; exact rfl) (fun K hK => ?_) AllReadyP.nil)
    rw [if_pos (by kernel_rfl)]
    have n0' : w93.cell? ⟨NB, 0, none⟩ = some (.int .i64 0) := by simp [World.cell?, HN93.out]
    have f0' := thaw HN93.out 0
    have n1' : w93.cell? ⟨NB, 1, none⟩ = some (.string ⟨#[]⟩) := by simp [World.cell?, HN93.out]
    have f1' := thaw HN93.out 1
    have n2' : w93.cell? ⟨NB, 2, none⟩ = some (.string ⟨#[]⟩) := by simp [World.cell?, HN93.out]
    have f2' := thaw HN93.out 2
    have n3' : w93.cell? ⟨NB, 3, none⟩ = some (.slice none 0 0) := by simp [World.cell?, HN93.out]
    have f3' := thaw HN93.out 3
    have n4' : w93.cell? ⟨NB, 4, none⟩ = some (.slice none 0 0) := by simp [World.cell?, HN93.out]
    have f4' := thaw HN93.out 4
    have n5' : w93.cell? ⟨NB, 5, none⟩ = some (.slice none 0 0) := by simp [World.cell?, HN93.out]
    have f5' := thaw HN93.out 5
    have hbn := cell_lt n0'
    go_simp
    refine hK.out _ _ (gone (by kernel_rfl)) ?_
    clear hK K
    (try simp only [ptN])
    refine wpAnyP_done (by kernel_rfl) ?_ _
    go_wp2_with fail
    have HW := set6D HN93.out (.int .i64 6) (.string (abcB r1)) (.string (nmB 104 r2)) (.slice ca3 tn cc3) (.slice none 0 0) (.slice none 0 0)
    refine bodyPost_ret (v := .agg #[.int .i64 6, .string (abcB r1), .string (nmB 104 r2), .slice ca3 tn cc3, .slice none 0 0, .slice none 0 0]) (results_cell_row Try.results141 _ _ NB 128 _ (0, 0) _ rfl HW Try.underlying128 rfl (by kernel_rfl)) rfl ?_
    exact ⟨[.int .i64 6, .string (abcB r1), .string (nmB 104 r2), .slice ca3 tn cc3, .slice none 0 0, .slice none 0 0], left, l4, rfl, (fin6 HNB.out HLT.out HG93.out HM93.out (repUp HT93.out (by omega)) HFOT.out HFLT.out (HLN.out _ rfl)).1, (fin6 HNB.out HLT.out HG93.out HM93.out (repUp HT93.out (by omega)) HFOT.out HFLT.out (HLN.out _ rfl)).2.1, HLL.out.1, Int.le_refl _, (fin6 HNB.out HLT.out HG93.out HM93.out (repUp HT93.out (by omega)) HFOT.out HFLT.out (HLN.out _ rfl)).2.2⟩
  · rw [if_pos (by kernel_rfl)]
    have HC := Lib.hid (names_any 104 3 104 3 w90 rfl rfl (by omega) (by omega))
    go_simp
    refine HC.out.mono ?_
    rintro e w91 ⟨⟨nv, rfl, ho⟩, hm⟩
    have HX91 := Lib.hid hm
    obtain ⟨nb, nc, rfl, hnb, hnx⟩ := name_cell ho (r := r2) (by have := HR4.out; omega)
    have HNGE := Lib.hid hnb
    have HNBE := Lib.hid (show MB < nb from by have := blk_ltD HN90.out; have := HLT.out; have := HNB.out; omega)
    have HNC91 := Lib.hid hnx
    clear ho hm HC hnb hnx
    have HG91 := Lib.hid (grow_trans HG90.out (grow_more HX91.out))
    have HN91 := Lib.hid ((HX91.out.block (blk_ltD HN90.out)).trans HN90.out)
    have HM91 := Lib.hid (HM90.out.more HX91.out)
    have HK91 := Lib.hid (show (w91.cell? ⟨MB, 4, none⟩ = some (.slice (some ⟨ab, ao, none⟩) an ac) ∧ w91.cell? ⟨ab, ao + r1, none⟩ = some (.slice (some ⟨rb, ro, none⟩) rm rc) ∧ w91.cell? ⟨rb, ro + r2, none⟩ = some (.int .i64 (xn : Int))) ∧ w91.cell? ⟨nb, r2, none⟩ = some (.string (nmB 104 r2)) from ⟨⟨HX91.out.cell HK90.out.1, HX91.out.cell HK90.out.2.1, HX91.out.cell HK90.out.2.2⟩, HNC91.out⟩)
    have hs5 := cell_lt HK91.out.2
    try go_wp2_with fail
    refine hK.out _ _ (fun _ => HK91.out.1) ?_
    clear hK K
    (try simp only [ptS, stA, st0, stS])
    refine wpAnyP_str (S' := fun W => (W.cell? ⟨MB, 4, none⟩ = some (.slice (some ⟨ab, ao, none⟩) an ac) ∧ W.cell? ⟨ab, ao + r1, none⟩ = some (.slice (some ⟨rb, ro, none⟩) rm rc) ∧ W.cell? ⟨rb, ro + r2, none⟩ = some (.int .i64 (xn : Int))) ∧ W.cell? ⟨nb, r2, none⟩ = some (.string (nmB 104 r2))) (fun _ h => h.1) ?_
    refine tkS (i := 6) (v := ?_) (by simp only [opA, opS, op0]; exact rfl) (by kernel_rfl) (by kernel_rfl) HK91.out ?_ ?_
    rotate_left
    · intro w hS
      (try dsimp only at hS); first | (go_simp; done) | (go_simp; with_reducible rfl)
    (try simp only [ptS, stA, st0, stS])
    refine tkS (i := 7) (v := ?_) (by simp only [opA, opS, op0]; exact rfl) (by kernel_rfl) (by kernel_rfl) HK91.out ?_ ?_
    rotate_left
    · intro w hS
      (try dsimp only at hS); first | (go_simp; done) | (go_simp; with_reducible rfl)
    (try simp only [ptS, stA, st0, stS])
    refine wpAnyP_ready (rs := [0, 19]) (by kernel_rfl) (by simp) ?_
    refine (AllReadyP.cons (by simp only [opA, op0]; exact rfl) (fun K hK => ?_) (AllReadyP.cons (by simp only [opA, opS, op0]; exact rfl) (fun K hK => ?_) AllReadyP.nil))
    · rw [if_pos (by kernel_rfl)]
      have HY92 := Lib.hid (more_allocD w91 (.cells #[.string ⟨#[97]⟩, .string ⟨#[98]⟩, .string ⟨#[99]⟩] 9))
      have HGB92 := Lib.hid (alloc_last w91 (.cells #[.string ⟨#[97]⟩, .string ⟨#[98]⟩, .string ⟨#[99]⟩] 9))
      obtain ⟨GB, HGE⟩ : ∃ B, Hid (B = w91.heap.size) := ⟨_, Lib.hid rfl⟩
      go_simp
      rw [← HGE.out] at HGB92
      try rw [← HGE.out]
      generalize w91.alloc (.cells #[.string ⟨#[97]⟩, .string ⟨#[98]⟩, .string ⟨#[99]⟩] 9) = w92 at *
      have HGBN := Lib.hid (show MB < GB from by have := blk_ltD HN91.out; have := HLT.out; have := HNB.out; have := HGE.out; omega)
      have HG92 := Lib.hid (grow_trans HG91.out (grow_more HY92.out))
      have HN92 := Lib.hid ((HY92.out.block (blk_ltD HN91.out)).trans HN91.out)
      have HM92 := Lib.hid (HM91.out.more HY92.out)
      have HK92 := Lib.hid (show ((w92.cell? ⟨MB, 4, none⟩ = some (.slice (some ⟨ab, ao, none⟩) an ac) ∧ w92.cell? ⟨ab, ao + r1, none⟩ = some (.slice (some ⟨rb, ro, none⟩) rm rc) ∧ w92.cell? ⟨rb, ro + r2, none⟩ = some (.int .i64 (xn : Int))) ∧ w92.cell? ⟨nb, r2, none⟩ = some (.string (nmB 104 r2))) ∧ w92.cell? ⟨GB, r1, none⟩ = some (.string (abcB r1)) from ⟨⟨⟨HY92.out.cell HK91.out.1.1, HY92.out.cell HK91.out.1.2.1, HY92.out.cell HK91.out.1.2.2⟩, HY92.out.cell HK91.out.2⟩, abc_cell HGB92.out HR3.out⟩)
      have hs4 := cell_lt HK92.out.2
      refine hK.out _ _ (fun _ => HK92.out.1) ?_
      clear hK K
      (try simp only [ptS, stA, st0, stS])
      refine wpAnyP_str (S' := fun W => ((W.cell? ⟨MB, 4, none⟩ = some (.slice (some ⟨ab, ao, none⟩) an ac) ∧ W.cell? ⟨ab, ao + r1, none⟩ = some (.slice (some ⟨rb, ro, none⟩) rm rc) ∧ W.cell? ⟨rb, ro + r2, none⟩ = some (.int .i64 (xn : Int))) ∧ W.cell? ⟨nb, r2, none⟩ = some (.string (nmB 104 r2))) ∧ W.cell? ⟨GB, r1, none⟩ = some (.string (abcB r1))) (fun _ h => h.1) ?_
      refine tkS (i := 2) (v := ?_) (by simp only [opA, opS, op0]; exact rfl) (by kernel_rfl) (by kernel_rfl) HK92.out ?_ ?_
      rotate_left
      · intro w hS
        (try dsimp only at hS); first | (go_simp; done) | (go_simp; with_reducible rfl)
      (try simp only [ptS, stA, st0, stS])
      refine tkS (i := 3) (v := ?_) (by simp only [opA, opS, op0]; exact rfl) (by kernel_rfl) (by kernel_rfl) HK92.out ?_ ?_
      rotate_left
      · intro w hS
        (try dsimp only at hS); first | (go_simp; done) | (go_simp; with_reducible rfl)
      (try simp only [ptS, stA, st0, stS])
      refine wpAnyP_ready (rs := [19]) (by kernel_rfl) (by simp) ?_
      refine (AllReadyP.cons (by simp only [opA, opS, op0]; exact rfl) (fun K hK => ?_) AllReadyP.nil)
      rw [if_pos (by kernel_rfl)]
      have HCR := Lib.hid (numbers_any MB d prm left xn l3 w92 HM92.out HD.out (by have := HXN.out; omega))
      obtain ⟨ts, l4, hR⟩ : ∃ t r, numsF d prm xn l3 = (t, r) := ⟨_, _, rfl⟩
      have HFOT := Lib.hid (show ∀ t ∈ ts, t.formed = true by have := numsF_formed d prm l3 xn; rw [hR] at this; exact this)
      have HLN := Lib.hid (show ∀ L : List Ex, L = ts → L.length ≤ 3 from fun L e => by rw [e]; have h := numsF_len d prm l3 xn; rw [hR] at h; have h2 := HXN.out; have h3 : ts.length = xn := h; omega)
      rw [hR] at HCR
      clear hR
      dsimp only at HCR
      go_simp
      refine HCR.out.mono ?_
      rintro e w93 ⟨c3, rfl, hr, hmk, hg⟩
      have HM93 := Lib.hid hmk
      have HG93 := Lib.hid (grow_trans HG92.out hg)
      have HN93 := Lib.hid ((hg.block NB (blk_ltD HN92.out) (fun e => by have := HLT.out; have := HNB.out; injection e with e; omega)).trans HN92.out)
      have HT93 := Lib.hid (show RepS .i64 (fun b => NB < b) w93 4 ts c3 from hr.mono (fun b hb => by have h9 : w92.heap.size ≤ b := hb; have := blk_ltD HN92.out; omega) (fun _ _ _ _ hc => hc) (Nat.le_refl _))
      have HFLT := Lib.hid hr.flds
      have HK93 := Lib.hid (show ((w93.cell? ⟨MB, 4, none⟩ = some (.slice (some ⟨ab, ao, none⟩) an ac) ∧ w93.cell? ⟨ab, ao + r1, none⟩ = some (.slice (some ⟨rb, ro, none⟩) rm rc) ∧ w93.cell? ⟨rb, ro + r2, none⟩ = some (.int .i64 (xn : Int))) ∧ w93.cell? ⟨nb, r2, none⟩ = some (.string (nmB 104 r2))) ∧ w93.cell? ⟨GB, r1, none⟩ = some (.string (abcB r1)) from ⟨⟨⟨(by have h := HM93.out.c34.2; rw [HDA.out] at h; exact h), cell_grown (Nat.ne_of_lt HAB.out) hg HK92.out.1.1.2.1, cell_grown (Nat.ne_of_lt HRB.out) hg HK92.out.1.1.2.2⟩, cell_grown (Nat.ne_of_gt HNBE.out) hg HK92.out.1.2⟩, cell_grown (Nat.ne_of_gt HGBN.out) hg HK92.out.2⟩)
      obtain ⟨ca3, cc3, hsh⟩ := hr.shape
      subst hsh
      generalize hlen : ts.length = tn at *
      clear hlen hr hmk hg HCR
      try go_wp2_with fail
      refine hK.out _ _ (fun _ => HK93.out) ?_
      clear hK K
      (try simp only [ptS, stA, st0, stS])
      refine tkS (i := 20) (v := ?_) (by simp only [opA, opS, op0]; exact rfl) (by kernel_rfl) (by kernel_rfl) HK93.out ?_ ?_
      rotate_left
      · intro w hS
        (try dsimp only at hS); first | (go_simp; done) | (go_simp; with_reducible rfl)
      (try simp only [ptS, stA, st0, stS])
      refine wpAnyP_ready (rs := [21]) (by kernel_rfl) (by simp) ?_
      refine (AllReadyP.cons (by simp only [opA, opS, op0]; exact rfl) (fun K hK => ?_) AllReadyP.nil)
      rw [if_pos (by kernel_rfl)]
      have n0' : w93.cell? ⟨NB, 0, none⟩ = some (.int .i64 0) := by simp [World.cell?, HN93.out]
      have f0' := thaw HN93.out 0
      have n1' : w93.cell? ⟨NB, 1, none⟩ = some (.string ⟨#[]⟩) := by simp [World.cell?, HN93.out]
      have f1' := thaw HN93.out 1
      have n2' : w93.cell? ⟨NB, 2, none⟩ = some (.string ⟨#[]⟩) := by simp [World.cell?, HN93.out]
      have f2' := thaw HN93.out 2
      have n3' : w93.cell? ⟨NB, 3, none⟩ = some (.slice none 0 0) := by simp [World.cell?, HN93.out]
      have f3' := thaw HN93.out 3
      have n4' : w93.cell? ⟨NB, 4, none⟩ = some (.slice none 0 0) := by simp [World.cell?, HN93.out]
      have f4' := thaw HN93.out 4
      have n5' : w93.cell? ⟨NB, 5, none⟩ = some (.slice none 0 0) := by simp [World.cell?, HN93.out]
      have f5' := thaw HN93.out 5
      have hbn := cell_lt n0'
      go_simp
      refine hK.out _ _ (gone (by kernel_rfl)) ?_
      clear hK K
      (try simp only [ptN])
      refine wpAnyP_done (by kernel_rfl) ?_ _
      go_wp2_with fail
      have HW := set6D HN93.out (.int .i64 6) (.string (abcB r1)) (.string (nmB 104 r2)) (.slice ca3 tn cc3) (.slice none 0 0) (.slice none 0 0)
      refine bodyPost_ret (v := .agg #[.int .i64 6, .string (abcB r1), .string (nmB 104 r2), .slice ca3 tn cc3, .slice none 0 0, .slice none 0 0]) (results_cell_row Try.results141 _ _ NB 128 _ (0, 0) _ rfl HW Try.underlying128 rfl (by kernel_rfl)) rfl ?_
      exact ⟨[.int .i64 6, .string (abcB r1), .string (nmB 104 r2), .slice ca3 tn cc3, .slice none 0 0, .slice none 0 0], left, l4, rfl, (fin6 HNB.out HLT.out HG93.out HM93.out (repUp HT93.out (by omega)) HFOT.out HFLT.out (HLN.out _ rfl)).1, (fin6 HNB.out HLT.out HG93.out HM93.out (repUp HT93.out (by omega)) HFOT.out HFLT.out (HLN.out _ rfl)).2.1, HLL.out.1, Int.le_refl _, (fin6 HNB.out HLT.out HG93.out HM93.out (repUp HT93.out (by omega)) HFOT.out HFLT.out (HLN.out _ rfl)).2.2⟩
    · rw [if_pos (by kernel_rfl)]
      have HCR := Lib.hid (numbers_any MB d prm left xn l3 w91 HM91.out HD.out (by have := HXN.out; omega))
      obtain ⟨ts, l4, hR⟩ : ∃ t r, numsF d prm xn l3 = (t, r) := ⟨_, _, rfl⟩
      have HFOT := Lib.hid (show ∀ t ∈ ts, t.formed = true by have := numsF_formed d prm l3 xn; rw [hR] at this; exact this)
      have HLN := Lib.hid (show ∀ L : List Ex, L = ts → L.length ≤ 3 from fun L e => by rw [e]; have h := numsF_len d prm l3 xn; rw [hR] at h; have h2 := HXN.out; have h3 : ts.length = xn := h; omega)
      rw [hR] at HCR
      clear hR
      dsimp only at HCR
      go_simp
      refine HCR.out.mono ?_
      rintro e w92 ⟨c3, rfl, hr, hmk, hg⟩
      have HM92 := Lib.hid hmk
      have HG92 := Lib.hid (grow_trans HG91.out hg)
      have HN92 := Lib.hid ((hg.block NB (blk_ltD HN91.out) (fun e => by have := HLT.out; have := HNB.out; injection e with e; omega)).trans HN91.out)
      have HT92 := Lib.hid (show RepS .i64 (fun b => NB < b) w92 4 ts c3 from hr.mono (fun b hb => by have h9 : w91.heap.size ≤ b := hb; have := blk_ltD HN91.out; omega) (fun _ _ _ _ hc => hc) (Nat.le_refl _))
      have HFLT := Lib.hid hr.flds
      have HK92 := Lib.hid (show (w92.cell? ⟨MB, 4, none⟩ = some (.slice (some ⟨ab, ao, none⟩) an ac) ∧ w92.cell? ⟨ab, ao + r1, none⟩ = some (.slice (some ⟨rb, ro, none⟩) rm rc) ∧ w92.cell? ⟨rb, ro + r2, none⟩ = some (.int .i64 (xn : Int))) ∧ w92.cell? ⟨nb, r2, none⟩ = some (.string (nmB 104 r2)) from ⟨⟨(by have h := HM92.out.c34.2; rw [HDA.out] at h; exact h), cell_grown (Nat.ne_of_lt HAB.out) hg HK91.out.1.2.1, cell_grown (Nat.ne_of_lt HRB.out) hg HK91.out.1.2.2⟩, cell_grown (Nat.ne_of_gt HNBE.out) hg HK91.out.2⟩)
      obtain ⟨ca3, cc3, hsh⟩ := hr.shape
      subst hsh
      generalize hlen : ts.length = tn at *
      clear hlen hr hmk hg HCR
      try go_wp2_with fail
      refine hK.out _ _ (fun _ => HK92.out) ?_
      clear hK K
      (try simp only [ptS, stA, st0, stS])
      refine wpAnyP_ready (rs := [0]) (by kernel_rfl) (by simp) ?_
      refine (AllReadyP.cons (by simp only [opA, op0]; exact rfl) (fun K hK => ?_) AllReadyP.nil)
      rw [if_pos (by kernel_rfl)]
      have HY93 := Lib.hid (more_allocD w92 (.cells #[.string ⟨#[97]⟩, .string ⟨#[98]⟩, .string ⟨#[99]⟩] 9))
      have HGB93 := Lib.hid (alloc_last w92 (.cells #[.string ⟨#[97]⟩, .string ⟨#[98]⟩, .string ⟨#[99]⟩] 9))
      obtain ⟨GB, HGE⟩ : ∃ B, Hid (B = w92.heap.size) := ⟨_, Lib.hid rfl⟩
      go_simp
      rw [← HGE.out] at HGB93
      try rw [← HGE.out]
      generalize w92.alloc (.cells #[.string ⟨#[97]⟩, .string ⟨#[98]⟩, .string ⟨#[99]⟩] 9) = w93 at *
      have HGBN := Lib.hid (show MB < GB from by have := blk_ltD HN92.out; have := HLT.out; have := HNB.out; have := HGE.out; omega)
      have HG93 := Lib.hid (grow_trans HG92.out (grow_more HY93.out))
      have HN93 := Lib.hid ((HY93.out.block (blk_ltD HN92.out)).trans HN92.out)
      have HM93 := Lib.hid (HM92.out.more HY93.out)
      have HT93 := Lib.hid (show RepS .i64 (fun b => NB < b) w93 4 ts (.slice ca3 tn cc3) from HT92.out.mono (fun _ k => k) (fun _ _ _ _ hc => HY93.out.cell hc) (Nat.le_refl _))
      have HK93 := Lib.hid (show ((w93.cell? ⟨MB, 4, none⟩ = some (.slice (some ⟨ab, ao, none⟩) an ac) ∧ w93.cell? ⟨ab, ao + r1, none⟩ = some (.slice (some ⟨rb, ro, none⟩) rm rc) ∧ w93.cell? ⟨rb, ro + r2, none⟩ = some (.int .i64 (xn : Int))) ∧ w93.cell? ⟨nb, r2, none⟩ = some (.string (nmB 104 r2))) ∧ w93.cell? ⟨GB, r1, none⟩ = some (.string (abcB r1)) from ⟨⟨⟨HY93.out.cell HK92.out.1.1, HY93.out.cell HK92.out.1.2.1, HY93.out.cell HK92.out.1.2.2⟩, HY93.out.cell HK92.out.2⟩, abc_cell HGB93.out HR3.out⟩)
      have hs4 := cell_lt HK93.out.2
      refine hK.out _ _ (fun _ => HK93.out.1) ?_
      clear hK K
      (try simp only [ptS, stA, st0, stS])
      refine wpAnyP_str (S' := fun W => ((W.cell? ⟨MB, 4, none⟩ = some (.slice (some ⟨ab, ao, none⟩) an ac) ∧ W.cell? ⟨ab, ao + r1, none⟩ = some (.slice (some ⟨rb, ro, none⟩) rm rc) ∧ W.cell? ⟨rb, ro + r2, none⟩ = some (.int .i64 (xn : Int))) ∧ W.cell? ⟨nb, r2, none⟩ = some (.string (nmB 104 r2))) ∧ W.cell? ⟨GB, r1, none⟩ = some (.string (abcB r1))) (fun _ h => h.1) ?_
      refine tkS (i := 2) (v := ?_) (by simp only [opA, opS, op0]; exact rfl) (by kernel_rfl) (by kernel_rfl) HK93.out ?_ ?_
      rotate_left
      · intro w hS
        (try dsimp only at hS); first | (go_simp; done) | (go_simp; with_reducible rfl)
      (try simp only [ptS, stA, st0, stS])
      refine tkS (i := 3) (v := ?_) (by simp only [opA, opS, op0]; exact rfl) (by kernel_rfl) (by kernel_rfl) HK93.out ?_ ?_
      rotate_left
      · intro w hS
        (try dsimp only at hS); first | (go_simp; done) | (go_simp; with_reducible rfl)
      (try simp only [ptS, stA, st0, stS])
      refine tkS (i := 20) (v := ?_) (by simp only [opA, opS, op0]; exact rfl) (by kernel_rfl) (by kernel_rfl) HK93.out ?_ ?_
      rotate_left
      · intro w hS
        (try dsimp only at hS); first | (go_simp; done) | (go_simp; with_reducible rfl)
      (try simp only [ptS, stA, st0, stS])
      refine wpAnyP_ready (rs := [21]) (by kernel_rfl) (by simp) ?_
      refine (AllReadyP.cons (by simp only [opA, opS, op0]; exact rfl) (fun K hK => ?_) AllReadyP.nil)
      rw [if_pos (by kernel_rfl)]
      have n0' : w93.cell? ⟨NB, 0, none⟩ = some (.int .i64 0) := by simp [World.cell?, HN93.out]
      have f0' := thaw HN93.out 0
      have n1' : w93.cell? ⟨NB, 1, none⟩ = some (.string ⟨#[]⟩) := by simp [World.cell?, HN93.out]
      have f1' := thaw HN93.out 1
      have n2' : w93.cell? ⟨NB, 2, none⟩ = some (.string ⟨#[]⟩) := by simp [World.cell?, HN93.out]
      have f2' := thaw HN93.out 2
      have n3' : w93.cell? ⟨NB, 3, none⟩ = some (.slice none 0 0) := by simp [World.cell?, HN93.out]
      have f3' := thaw HN93.out 3
      have n4' : w93.cell? ⟨NB, 4, none⟩ = some (.slice none 0 0) := by simp [World.cell?, HN93.out]
      have f4' := thaw HN93.out 4
      have n5' : w93.cell? ⟨NB, 5, none⟩ = some (.slice none 0 0) := by simp [World.cell?, HN93.out]
      have f5' := thaw HN93.out 5
      have hbn := cell_lt n0'
      go_simp
      refine hK.out _ _ (gone (by kernel_rfl)) ?_
      clear hK K
      (try simp only [ptN])
      refine wpAnyP_done (by kernel_rfl) ?_ _
      go_wp2_with fail
      have HW := set6D HN93.out (.int .i64 6) (.string (abcB r1)) (.string (nmB 104 r2)) (.slice ca3 tn cc3) (.slice none 0 0) (.slice none 0 0)
      refine bodyPost_ret (v := .agg #[.int .i64 6, .string (abcB r1), .string (nmB 104 r2), .slice ca3 tn cc3, .slice none 0 0, .slice none 0 0]) (results_cell_row Try.results141 _ _ NB 128 _ (0, 0) _ rfl HW Try.underlying128 rfl (by kernel_rfl)) rfl ?_
      exact ⟨[.int .i64 6, .string (abcB r1), .string (nmB 104 r2), .slice ca3 tn cc3, .slice none 0 0, .slice none 0 0], left, l4, rfl, (fin6 HNB.out HLT.out HG93.out HM93.out (repUp HT93.out (by omega)) HFOT.out HFLT.out (HLN.out _ rfl)).1, (fin6 HNB.out HLT.out HG93.out HM93.out (repUp HT93.out (by omega)) HFOT.out HFLT.out (HLN.out _ rfl)).2.1, HLL.out.1, Int.le_refl _, (fin6 HNB.out HLT.out HG93.out HM93.out (repUp HT93.out (by omega)) HFOT.out HFLT.out (HLN.out _ rfl)).2.2⟩
set_option maxRecDepth 100000 in
set_option maxHeartbeats 4000000 in
theorem stmt9_any (MB : Nat) (d : MkD) (prm left dp : Int) (l : List Int) (w : World) (h : MkAt w MB d prm left l) (hd : d.Ok prm) (hfl : 0 ≤ d.flags ∧ d.flags ≤ 2) (har : ArOk w MB d) (hl0 : 0 ≤ left) (hl9 : left ≤ 12) :
    Calls Try.prog 141 #[.pointer (some ⟨MB, 0, none⟩), .int .i64 9, .int .i64 dp] w fun e w' => ∃ cs left' l', e = .returned (.agg cs.toArray) ∧ StmtC (fun b => w.heap.size ≤ b) w' cs ∧ MkAt w' MB d prm left' l' ∧ 0 ≤ left' ∧ left' ≤ left ∧ w.grownBy w' (some MB) := by
  have HD := Lib.hid hd
  have HFG := Lib.hid hfl
  have HLL := Lib.hid (And.intro hl0 hl9)
  have HA := Lib.hid (more_allocD w (.cells #[.int .i64 0, .string ⟨#[]⟩, .string ⟨#[]⟩, .slice none 0 0, .slice none 0 0, .slice none 0 0] 128))
  have HN1 := Lib.hid (alloc_last w (.cells #[.int .i64 0, .string ⟨#[]⟩, .string ⟨#[]⟩, .slice none 0 0, .slice none 0 0, .slice none 0 0] 128))
  have HM1 := Lib.hid (h.more HA.out)
  have HLT := Lib.hid h.lt
  have HAR := Lib.hid har
  clear h hd hfl har hl0 hl9
  obtain ⟨NB, HNB⟩ : ∃ B, Hid (B = w.heap.size) := ⟨_, Lib.hid rfl⟩
  rw [← HNB.out] at HN1
  have HG1 := Lib.hid (show w.grownBy _ (some MB) from grow_more (B := MB) HA.out)
  clear HFG
  obtain ⟨ab, ao, an, ac, hda, hn3, ho0, hoa, hab, hrows⟩ := HAR.out
  have HAB := Lib.hid hab
  have HAN := Lib.hid (And.intro hn3 (And.intro ho0 hoa))
  have HROWS := Lib.hid hrows
  have HDA := Lib.hid hda
  clear hab hrows hda hn3 ho0 hoa
  have e4 := HM1.out.c34.2
  rw [HDA.out] at e4
  have hbm := cell_lt e4
  have HC1 := Lib.hid (next_any MB d prm left (an : Int) l _ HM1.out (by have := HAN.out; omega) (by have := HAN.out; omega))
  have HR1 := Lib.hid (nextB_rng l (n := (an : Int)) (by have := HAN.out; omega))
  obtain ⟨r1, HRE1⟩ : ∃ r : Nat, Hid ((nextB l an).1 = r) := ⟨(nextB l an).1.toNat, Lib.hid (by have := HR1.out; omega)⟩
  obtain ⟨l2, HL2⟩ : ∃ s, Hid ((nextB l an).2 = s) := ⟨_, Lib.hid rfl⟩
  rw [HRE1.out] at HR1
  rw [HRE1.out, HL2.out] at HC1
  clear HRE1 HL2
  go_enter Try.func141, Try.ntmps141
  go_wp2_with fail
  rw [← HNB.out]
  generalize w.alloc (.cells #[.int .i64 0, .string ⟨#[]⟩, .string ⟨#[]⟩, .slice none 0 0, .slice none 0 0, .slice none 0 0] 128) = w1 at *
  refine HC1.out.mono ?_
  rintro e w2 ⟨rfl, hmk, hg⟩
  have HM2 := Lib.hid hmk
  have HG2 := Lib.hid (grow_trans HG1.out hg)
  have HN2 := Lib.hid ((hg.block NB (blk_ltD HN1.out) (fun e => by have := HLT.out; have := HNB.out; injection e with e; omega)).trans HN1.out)
  clear hmk hg HC1 e4 hbm
  have HLR1 := Lib.hid (show r1 < an from by have := HR1.out; omega)
  have HR3 := Lib.hid (show r1 < 3 from by have := HLR1.out; have := HAN.out; omega)
  obtain ⟨rv, hrv, hro⟩ := HROWS.out r1 HLR1.out
  obtain ⟨rb, ro, rm, rc, rfl, hm1, hm3, hrb, hxs⟩ := hro.at
  have HRM := Lib.hid (And.intro hm1 hm3)
  have HRB := Lib.hid hrb
  have HXS := Lib.hid hxs
  have HRV := Lib.hid hrv
  clear hrv hro hm1 hm3 hrb hxs
  have e4 := HM2.out.c34.2
  rw [HDA.out] at e4
  have hbm := cell_lt e4
  have hll : (r1 : Int) < (an : Int) := by have := HLR1.out; omega
  have hll2 : r1 < an := HLR1.out
  have hW2 : ∀ x u, x.block < MB → w.cell? x = some u → w2.cell? x = some u := fun x u hx hc => cell_grown (Nat.ne_of_lt hx) HG2.out hc
  have e5 := hW2 _ _ HAB.out HRV.out
  have hba := cell_lt e5
  have HC1 := Lib.hid (next_any MB d prm left (rm : Int) l2 w2 HM2.out (by have := HRM.out; omega) (by have := HRM.out; omega))
  have HR1 := Lib.hid (nextB_rng l2 (n := (rm : Int)) (by have := HRM.out; omega))
  obtain ⟨r2, HRE1⟩ : ∃ r : Nat, Hid ((nextB l2 rm).1 = r) := ⟨(nextB l2 rm).1.toNat, Lib.hid (by have := HR1.out; omega)⟩
  obtain ⟨l3, HL3⟩ : ∃ s, Hid ((nextB l2 rm).2 = s) := ⟨_, Lib.hid rfl⟩
  rw [HRE1.out] at HR1
  rw [HRE1.out, HL3.out] at HC1
  clear HRE1 HL3 hW2
  go_wp2_with fail
  refine HC1.out.mono ?_
  rintro e w3 ⟨rfl, hmk, hg⟩
  have HM3 := Lib.hid hmk
  have HG3 := Lib.hid (grow_trans HG2.out hg)
  have HN3 := Lib.hid ((hg.block NB (blk_ltD HN2.out) (fun e => by have := HLT.out; have := HNB.out; injection e with e; omega)).trans HN2.out)
  clear hmk hg HC1 e4 hbm e5 hba
  have HLR2 := Lib.hid (show r2 < rm from by have := HR1.out; omega)
  have HR4 := Lib.hid (show r2 < 3 from by have := HLR2.out; have := HRM.out; omega)
  obtain ⟨xn, hxc, hx2⟩ := HXS.out r2 HLR2.out
  have HXN := Lib.hid hx2
  have HXC := Lib.hid hxc
  clear hxc hx2
  have hlm : (r2 : Int) < (rm : Int) := by have := HLR2.out; omega
  have hlm2 : r2 < rm := HLR2.out
  have h13 : r1 < 3 := HR3.out
  have h23 : r2 < 3 := HR4.out
  have h13i : (r1 : Int) < 3 := by omega
  have h23i : (r2 : Int) < 3 := by omega
  go_upto_region 17 with fail
  have HDR := Lib.hid (more_drew w3)
  refine wp_region_heldP (S := fun W => W.cell? ⟨MB, 4, none⟩ = some (.slice (some ⟨ab, ao, none⟩) an ac) ∧ W.cell? ⟨ab, ao + r1, none⟩ = some (.slice (some ⟨rb, ro, none⟩) rm rc) ∧ W.cell? ⟨rb, ro + r2, none⟩ = some (.int .i64 (xn : Int))) 21 (by kernel_rfl) ?_
  generalize w3.drew = w90 at *
  have HG90 := Lib.hid (grow_trans HG3.out (grow_more HDR.out))
  have HN90 := Lib.hid ((HDR.out.block (blk_ltD HN3.out)).trans HN3.out)
  have HM90 := Lib.hid (HM3.out.more HDR.out)
  have HK90 := Lib.hid (show w90.cell? ⟨MB, 4, none⟩ = some (.slice (some ⟨ab, ao, none⟩) an ac) ∧ w90.cell? ⟨ab, ao + r1, none⟩ = some (.slice (some ⟨rb, ro, none⟩) rm rc) ∧ w90.cell? ⟨rb, ro + r2, none⟩ = some (.int .i64 (xn : Int)) from ⟨by have h := HM90.out.c34.2; rw [HDA.out] at h; exact h, HDR.out.cell (cell_grown (Nat.ne_of_lt HAB.out) HG3.out HRV.out), HDR.out.cell (cell_grown (Nat.ne_of_lt HRB.out) HG3.out HXC.out)⟩)
  have hs1 := cell_lt HK90.out.1
  have hs2 := cell_lt HK90.out.2.1
  have hs3 := cell_lt HK90.out.2.2
  refine tkS (i := 1) (v := ?_) (by simp only [opA, opS, op0]; exact rfl) (by kernel_rfl) (by kernel_rfl) HK90.out ?_ ?_
  rotate_left
  · intro w hS
    (try dsimp only at hS); first | (go_simp; done) | (go_simp; with_reducible rfl)
  (try simp only [ptS, stA, st0, stS])
  refine tkS (i := 5) (v := ?_) (by simp only [opA, opS, op0]; exact rfl) (by kernel_rfl) (by kernel_rfl) HK90.out ?_ ?_
  rotate_left
  · intro w hS
    (try dsimp only at hS); first | (go_simp; done) | (go_simp; with_reducible rfl)
  (try simp only [ptS, stA, st0, stS])
  refine tkS (i := 8) (v := ?_) (by simp only [opA, opS, op0]; exact rfl) (by kernel_rfl) (by kernel_rfl) HK90.out ?_ ?_
  rotate_left
  · intro w hS
    (try dsimp only at hS); first | (go_simp; done) | (go_simp; with_reducible rfl)
  (try simp only [ptS, stA, st0, stS])
  refine tkS (i := 9) (v := ?_) (by simp only [opA, opS, op0]; exact rfl) (by kernel_rfl) (by kernel_rfl) HK90.out ?_ ?_
  rotate_left
  · intro w hS
    (try dsimp only at hS); first | (go_simp; done) | (go_simp; with_reducible rfl)
  (try simp only [ptS, stA, st0, stS])
  refine tkS (i := 10) (v := ?_) (by simp only [opA, opS, op0]; exact rfl) (by kernel_rfl) (by kernel_rfl) HK90.out ?_ ?_
  rotate_left
  · intro w hS
    (try dsimp only at hS); first | (go_simp; done) | (go_simp; with_reducible rfl)
  (try simp only [ptS, stA, st0, stS])
  refine tkS (i := 11) (v := ?_) (by simp only [opA, opS, op0]; exact rfl) (by kernel_rfl) (by kernel_rfl) HK90.out ?_ ?_
  rotate_left
  · intro w hS
    (try dsimp only at hS); first | (go_simp; done) | (go_simp; with_reducible rfl)
  (try simp only [ptS, stA, st0, stS])
  refine tkS (i := 12) (v := ?_) (by simp only [opA, opS, op0]; exact rfl) (by kernel_rfl) (by kernel_rfl) HK90.out ?_ ?_
  rotate_left
  · intro w hS
    (try dsimp only at hS); first | (go_simp; done) | (go_simp; with_reducible rfl)
  (try simp only [ptS, stA, st0, stS])
  refine tkS (i := 13) (v := ?_) (by simp only [opA, opS, op0]; exact rfl) (by kernel_rfl) (by kernel_rfl) HK90.out ?_ ?_
  rotate_left
  · intro w hS
    (try dsimp only at hS); first | (go_simp; done) | (go_simp; with_reducible rfl)
  (try simp only [ptS, stA, st0, stS])
  refine tkS (i := 14) (v := ?_) (by simp only [opA, opS, op0]; exact rfl) (by kernel_rfl) (by kernel_rfl) HK90.out ?_ ?_
  rotate_left
  · intro w hS
    (try dsimp only at hS); first | (go_simp; done) | (go_simp; with_reducible rfl)
  (try simp only [ptS, stA, st0, stS])
  refine tkS (i := 15) (v := ?_) (by simp only [opA, opS, op0]; exact rfl) (by kernel_rfl) (by kernel_rfl) HK90.out ?_ ?_
  rotate_left
  · intro w hS
    (try dsimp only at hS); first | (go_simp; done) | (go_simp; with_reducible rfl)
  (try simp only [ptS, stA, st0, stS])
  refine tkS (i := 16) (v := ?_) (by simp only [opA, opS, op0]; exact rfl) (by kernel_rfl) (by kernel_rfl) HK90.out ?_ ?_
  rotate_left
  · intro w hS
    (try dsimp only at hS); first | (go_simp; done) | (go_simp; with_reducible rfl)
  (try simp only [ptS, stA, st0, stS])
  refine tkS (i := 17) (v := ?_) (by simp only [opA, opS, op0]; exact rfl) (by kernel_rfl) (by kernel_rfl) HK90.out ?_ ?_
  rotate_left
  · intro w hS
    (try dsimp only at hS); first | (go_simp; done) | (go_simp; with_reducible rfl)
  (try simp only [ptS, stA, st0, stS])
  refine tkS (i := 18) (v := ?_) (by simp only [opA, opS, op0]; exact rfl) (by kernel_rfl) (by kernel_rfl) HK90.out ?_ ?_
  rotate_left
  · intro w hS
    (try dsimp only at hS); first | (go_simp; done) | (go_simp; with_reducible rfl)
  (try simp only [ptS, stA, st0, stS])
  refine wpAnyP_ready (rs := [0, 4]) (by kernel_rfl) (by simp) ?_
  refine (AllReadyP.cons (by simp only [opA, op0]; exact rfl) (fun K hK => ?_) (AllReadyP.cons (by simp only [opA, opS, op0]; exact rfl) (fun K hK => ?_) AllReadyP.nil))
  · rw [if_pos (by kernel_rfl)]
    have HY91 := Lib.hid (more_allocD w90 (.cells #[.string ⟨#[97]⟩, .string ⟨#[98]⟩, .string ⟨#[99]⟩] 9))
    have HGB91 := Lib.hid (alloc_last w90 (.cells #[.string ⟨#[97]⟩, .string ⟨#[98]⟩, .string ⟨#[99]⟩] 9))
    obtain ⟨GB, HGE⟩ : ∃ B, Hid (B = w90.heap.size) := ⟨_, Lib.hid rfl⟩
    go_simp
    rw [← HGE.out] at HGB91
    try rw [← HGE.out]
    generalize w90.alloc (.cells #[.string ⟨#[97]⟩, .string ⟨#[98]⟩, .string ⟨#[99]⟩] 9) = w91 at *
    have HGBN := Lib.hid (show MB < GB from by have := blk_ltD HN90.out; have := HLT.out; have := HNB.out; have := HGE.out; omega)
    have HG91 := Lib.hid (grow_trans HG90.out (grow_more HY91.out))
    have HN91 := Lib.hid ((HY91.out.block (blk_ltD HN90.out)).trans HN90.out)
    have HM91 := Lib.hid (HM90.out.more HY91.out)
    have HK91 := Lib.hid (show (w91.cell? ⟨MB, 4, none⟩ = some (.slice (some ⟨ab, ao, none⟩) an ac) ∧ w91.cell? ⟨ab, ao + r1, none⟩ = some (.slice (some ⟨rb, ro, none⟩) rm rc) ∧ w91.cell? ⟨rb, ro + r2, none⟩ = some (.int .i64 (xn : Int))) ∧ w91.cell? ⟨GB, r1, none⟩ = some (.string (abcB r1)) from ⟨⟨HY91.out.cell HK90.out.1, HY91.out.cell HK90.out.2.1, HY91.out.cell HK90.out.2.2⟩, abc_cell HGB91.out HR3.out⟩)
    have hs4 := cell_lt HK91.out.2
    refine hK.out _ _ (fun _ => HK91.out.1) ?_
    clear hK K
    (try simp only [ptS, stA, st0, stS])
    refine wpAnyP_str (S' := fun W => (W.cell? ⟨MB, 4, none⟩ = some (.slice (some ⟨ab, ao, none⟩) an ac) ∧ W.cell? ⟨ab, ao + r1, none⟩ = some (.slice (some ⟨rb, ro, none⟩) rm rc) ∧ W.cell? ⟨rb, ro + r2, none⟩ = some (.int .i64 (xn : Int))) ∧ W.cell? ⟨GB, r1, none⟩ = some (.string (abcB r1))) (fun _ h => h.1) ?_
    refine tkS (i := 2) (v := ?_) (by simp only [opA, opS, op0]; exact rfl) (by kernel_rfl) (by kernel_rfl) HK91.out ?_ ?_
    rotate_left
    · intro w hS
      (try dsimp only at hS); first | (go_simp; done) | (go_simp; with_reducible rfl)
    (try simp only [ptS, stA, st0, stS])
    refine tkS (i := 3) (v := ?_) (by simp only [opA, opS, op0]; exact rfl) (by kernel_rfl) (by kernel_rfl) HK91.out ?_ ?_
    rotate_left
    · intro w hS
      (try dsimp only at hS); first | (go_simp; done) | (go_simp; with_reducible rfl)
    (try simp only [ptS, stA, st0, stS])
    refine wpAnyP_ready (rs := [4]) (by kernel_rfl) (by simp) ?_
    refine (AllReadyP.cons (by simp only [opA, opS, op0]; exact rfl) (fun K hK => ?_) AllReadyP.nil)
    rw [if_pos (by kernel_rfl)]
    have HC := Lib.hid (names_any 104 3 104 3 w91 rfl rfl (by omega) (by omega))
    go_simp
    refine HC.out.mono ?_
    rintro e w92 ⟨⟨nv, rfl, ho⟩, hm⟩
    have HX92 := Lib.hid hm
    obtain ⟨nb, nc, rfl, hnb, hnx⟩ := name_cell ho (r := r2) (by have := HR4.out; omega)
    have HNGE := Lib.hid hnb
    have HNBE := Lib.hid (show MB < nb from by have := blk_ltD HN91.out; have := HLT.out; have := HNB.out; omega)
    have HNC92 := Lib.hid hnx
    clear ho hm HC hnb hnx
    have HG92 := Lib.hid (grow_trans HG91.out (grow_more HX92.out))
    have HN92 := Lib.hid ((HX92.out.block (blk_ltD HN91.out)).trans HN91.out)
    have HM92 := Lib.hid (HM91.out.more HX92.out)
    have HK92 := Lib.hid (show ((w92.cell? ⟨MB, 4, none⟩ = some (.slice (some ⟨ab, ao, none⟩) an ac) ∧ w92.cell? ⟨ab, ao + r1, none⟩ = some (.slice (some ⟨rb, ro, none⟩) rm rc) ∧ w92.cell? ⟨rb, ro + r2, none⟩ = some (.int .i64 (xn : Int))) ∧ w92.cell? ⟨GB, r1, none⟩ = some (.string (abcB r1))) ∧ w92.cell? ⟨nb, r2, none⟩ = some (.string (nmB 104 r2)) from ⟨⟨⟨HX92.out.cell HK91.out.1.1, HX92.out.cell HK91.out.1.2.1, HX92.out.cell HK91.out.1.2.2⟩, HX92.out.cell HK91.out.2⟩, HNC92.out⟩)
    have hs5 := cell_lt HK92.out.2
    try go_wp2_with fail
    refine hK.out _ _ (fun _ => HK92.out.1) ?_
    clear hK K
    (try simp only [ptS, stA, st0, stS])
    refine wpAnyP_str (S' := fun W => ((W.cell? ⟨MB, 4, none⟩ = some (.slice (some ⟨ab, ao, none⟩) an ac) ∧ W.cell? ⟨ab, ao + r1, none⟩ = some (.slice (some ⟨rb, ro, none⟩) rm rc) ∧ W.cell? ⟨rb, ro + r2, none⟩ = some (.int .i64 (xn : Int))) ∧ W.cell? ⟨GB, r1, none⟩ = some (.string (abcB r1))) ∧ W.cell? ⟨nb, r2, none⟩ = some (.string (nmB 104 r2))) (fun _ h => h.1) ?_
    refine tkS (i := 6) (v := ?_) (by simp only [opA, opS, op0]; exact rfl) (by kernel_rfl) (by kernel_rfl) HK92.out ?_ ?_
    rotate_left
    · intro w hS
      (try dsimp only at hS); first | (go_simp; done) | (go_simp; with_reducible rfl)
    (try simp only [ptS, stA, st0, stS])
    refine tkS (i := 7) (v := ?_) (by simp only [opA, opS, op0]; exact rfl) (by kernel_rfl) (by kernel_rfl) HK92.out ?_ ?_
    rotate_left
    · intro w hS
      (try dsimp only at hS); first | (go_simp; done) | (go_simp; with_reducible rfl)
    (try simp only [ptS, stA, st0, stS])
    refine wpAnyP_ready (rs := [19]) (by kernel_rfl) (by simp) ?_
    refine (AllReadyP.cons (by simp only [opA, opS, op0]; exact rfl) (fun K hK => ?_) AllReadyP.nil)
    rw [if_pos (by kernel_rfl)]
    have HCR := Lib.hid (numbers_any MB d prm left xn l3 w92 HM92.out HD.out (by have := HXN.out; omega))
    obtain ⟨ts, l4, hR⟩ : ∃ t r, numsF d prm xn l3 = (t, r) := ⟨_, _, rfl⟩
    have HFOT := Lib.hid (show ∀ t ∈ ts, t.formed = true by have := numsF_formed d prm l3 xn; rw [hR] at this; exact this)
    have HLN := Lib.hid (show ∀ L : List Ex, L = ts → L.length ≤ 3 from fun L e => by rw [e]; have h := numsF_len d prm l3 xn; rw [hR] at h; have h2 := HXN.out; have h3 : ts.length = xn := h; omega)
    rw [hR] at HCR
    clear hR
    dsimp only at HCR
    go_simp
    refine HCR.out.mono ?_
    rintro e w93 ⟨c3, rfl, hr, hmk, hg⟩
    have HM93 := Lib.hid hmk
    have HG93 := Lib.hid (grow_trans HG92.out hg)
    have HN93 := Lib.hid ((hg.block NB (blk_ltD HN92.out) (fun e => by have := HLT.out; have := HNB.out; injection e with e; omega)).trans HN92.out)
    have HT93 := Lib.hid (show RepS .i64 (fun b => NB < b) w93 4 ts c3 from hr.mono (fun b hb => by have h9 : w92.heap.size ≤ b := hb; have := blk_ltD HN92.out; omega) (fun _ _ _ _ hc => hc) (Nat.le_refl _))
    have HFLT := Lib.hid hr.flds
    have HK93 := Lib.hid (show ((w93.cell? ⟨MB, 4, none⟩ = some (.slice (some ⟨ab, ao, none⟩) an ac) ∧ w93.cell? ⟨ab, ao + r1, none⟩ = some (.slice (some ⟨rb, ro, none⟩) rm rc) ∧ w93.cell? ⟨rb, ro + r2, none⟩ = some (.int .i64 (xn : Int))) ∧ w93.cell? ⟨GB, r1, none⟩ = some (.string (abcB r1))) ∧ w93.cell? ⟨nb, r2, none⟩ = some (.string (nmB 104 r2)) from ⟨⟨⟨(by have h := HM93.out.c34.2; rw [HDA.out] at h; exact h), cell_grown (Nat.ne_of_lt HAB.out) hg HK92.out.1.1.2.1, cell_grown (Nat.ne_of_lt HRB.out) hg HK92.out.1.1.2.2⟩, cell_grown (Nat.ne_of_gt HGBN.out) hg HK92.out.1.2⟩, cell_grown (Nat.ne_of_gt HNBE.out) hg HK92.out.2⟩)
    obtain ⟨ca3, cc3, hsh⟩ := hr.shape
    subst hsh
    generalize hlen : ts.length = tn at *
    clear hlen hr hmk hg HCR
    try go_wp2_with fail
    refine hK.out _ _ (fun _ => HK93.out) ?_
    clear hK K
    (try simp only [ptS, stA, st0, stS])
    refine tkS (i := 20) (v := ?_) (by simp only [opA, opS, op0]; exact rfl) (by kernel_rfl) (by kernel_rfl) HK93.out ?_ ?_
    rotate_left
    · intro w hS
      (try dsimp only at hS); first | (go_simp; done) | (go_simp; with_reducible rfl)
    (try simp only [ptS, stA, st0, stS])
    refine wpAnyP_ready (rs := [21]) (by kernel_rfl) (by simp) ?_
    refine (AllReadyP.cons (by simp only [opA, opS, op0]; exact rfl) (fun K hK => ?_) AllReadyP.nil)
    rw [if_pos (by kernel_rfl)]
    have n0' : w93.cell? ⟨NB, 0, none⟩ = some (.int .i64 0) := by simp [World.cell?, HN93.out]
    have f0' := thaw HN93.out 0
    have n1' : w93.cell? ⟨NB, 1, none⟩ = some (.string ⟨#[]⟩) := by simp [World.cell?, HN93.out]
    have f1' := thaw HN93.out 1
    have n2' : w93.cell? ⟨NB, 2, none⟩ = some (.string ⟨#[]⟩) := by simp [World.cell?, HN93.out]
    have f2' := thaw HN93.out 2
    have n3' : w93.cell? ⟨NB, 3, none⟩ = some (.slice none 0 0) := by simp [World.cell?, HN93.out]
    have f3' := thaw HN93.out 3
    have n4' : w93.cell? ⟨NB, 4, none⟩ = some (.slice none 0 0) := by simp [World.cell?, HN93.out]
    have f4' := thaw HN93.out 4
    have n5' : w93.cell? ⟨NB, 5, none⟩ = some (.slice none 0 0) := by simp [World.cell?, HN93.out]
    have f5' := thaw HN93.out 5
    have hbn := cell_lt n0'
    go_simp
    refine hK.out _ _ (gone (by kernel_rfl)) ?_
    clear hK K
    (try simp only [ptN])
    refine wpAnyP_done (by kernel_rfl) ?_ _
    go_wp2_with fail
    have HW := set6D HN93.out (.int .i64 6) (.string (abcB r1)) (.string (nmB 104 r2)) (.slice ca3 tn cc3) (.slice none 0 0) (.slice none 0 0)
    refine bodyPost_ret (v := .agg #[.int .i64 6, .string (abcB r1), .string (nmB 104 r2), .slice ca3 tn cc3, .slice none 0 0, .slice none 0 0]) (results_cell_row Try.results141 _ _ NB 128 _ (0, 0) _ rfl HW Try.underlying128 rfl (by kernel_rfl)) rfl ?_
    exact ⟨[.int .i64 6, .string (abcB r1), .string (nmB 104 r2), .slice ca3 tn cc3, .slice none 0 0, .slice none 0 0], left, l4, rfl, (fin6 HNB.out HLT.out HG93.out HM93.out (repUp HT93.out (by omega)) HFOT.out HFLT.out (HLN.out _ rfl)).1, (fin6 HNB.out HLT.out HG93.out HM93.out (repUp HT93.out (by omega)) HFOT.out HFLT.out (HLN.out _ rfl)).2.1, HLL.out.1, Int.le_refl _, (fin6 HNB.out HLT.out HG93.out HM93.out (repUp HT93.out (by omega)) HFOT.out HFLT.out (HLN.out _ rfl)).2.2⟩
  · rw [if_pos (by kernel_rfl)]
    have HC := Lib.hid (names_any 104 3 104 3 w90 rfl rfl (by omega) (by omega))
    go_simp
    refine HC.out.mono ?_
    rintro e w91 ⟨⟨nv, rfl, ho⟩, hm⟩
    have HX91 := Lib.hid hm
    obtain ⟨nb, nc, rfl, hnb, hnx⟩ := name_cell ho (r := r2) (by have := HR4.out; omega)
    have HNGE := Lib.hid hnb
    have HNBE := Lib.hid (show MB < nb from by have := blk_ltD HN90.out; have := HLT.out; have := HNB.out; omega)
    have HNC91 := Lib.hid hnx
    clear ho hm HC hnb hnx
    have HG91 := Lib.hid (grow_trans HG90.out (grow_more HX91.out))
    have HN91 := Lib.hid ((HX91.out.block (blk_ltD HN90.out)).trans HN90.out)
    have HM91 := Lib.hid (HM90.out.more HX91.out)
    have HK91 := Lib.hid (show (w91.cell? ⟨MB, 4, none⟩ = some (.slice (some ⟨ab, ao, none⟩) an ac) ∧ w91.cell? ⟨ab, ao + r1, none⟩ = some (.slice (some ⟨rb, ro, none⟩) rm rc) ∧ w91.cell? ⟨rb, ro + r2, none⟩ = some (.int .i64 (xn : Int))) ∧ w91.cell? ⟨nb, r2, none⟩ = some (.string (nmB 104 r2)) from ⟨⟨HX91.out.cell HK90.out.1, HX91.out.cell HK90.out.2.1, HX91.out.cell HK90.out.2.2⟩, HNC91.out⟩)
    have hs5 := cell_lt HK91.out.2
    try go_wp2_with fail
    refine hK.out _ _ (fun _ => HK91.out.1) ?_
    clear hK K
    (try simp only [ptS, stA, st0, stS])
    refine wpAnyP_str (S' := fun W => (W.cell? ⟨MB, 4, none⟩ = some (.slice (some ⟨ab, ao, none⟩) an ac) ∧ W.cell? ⟨ab, ao + r1, none⟩ = some (.slice (some ⟨rb, ro, none⟩) rm rc) ∧ W.cell? ⟨rb, ro + r2, none⟩ = some (.int .i64 (xn : Int))) ∧ W.cell? ⟨nb, r2, none⟩ = some (.string (nmB 104 r2))) (fun _ h => h.1) ?_
    refine tkS (i := 6) (v := ?_) (by simp only [opA, opS, op0]; exact rfl) (by kernel_rfl) (by kernel_rfl) HK91.out ?_ ?_
    rotate_left
    · intro w hS
      (try dsimp only at hS); first | (go_simp; done) | (go_simp; with_reducible rfl)
    (try simp only [ptS, stA, st0, stS])
    refine tkS (i := 7) (v := ?_) (by simp only [opA, opS, op0]; exact rfl) (by kernel_rfl) (by kernel_rfl) HK91.out ?_ ?_
    rotate_left
    · intro w hS
      (try dsimp only at hS); first | (go_simp; done) | (go_simp; with_reducible rfl)
    (try simp only [ptS, stA, st0, stS])
    refine wpAnyP_ready (rs := [0, 19]) (by kernel_rfl) (by simp) ?_
    refine (AllReadyP.cons (by simp only [opA, op0]; exact rfl) (fun K hK => ?_) (AllReadyP.cons (by simp only [opA, opS, op0]; exact rfl) (fun K hK => ?_) AllReadyP.nil))
    · rw [if_pos (by kernel_rfl)]
      have HY92 := Lib.hid (more_allocD w91 (.cells #[.string ⟨#[97]⟩, .string ⟨#[98]⟩, .string ⟨#[99]⟩] 9))
      have HGB92 := Lib.hid (alloc_last w91 (.cells #[.string ⟨#[97]⟩, .string ⟨#[98]⟩, .string ⟨#[99]⟩] 9))
      obtain ⟨GB, HGE⟩ : ∃ B, Hid (B = w91.heap.size) := ⟨_, Lib.hid rfl⟩
      go_simp
      rw [← HGE.out] at HGB92
      try rw [← HGE.out]
      generalize w91.alloc (.cells #[.string ⟨#[97]⟩, .string ⟨#[98]⟩, .string ⟨#[99]⟩] 9) = w92 at *
      have HGBN := Lib.hid (show MB < GB from by have := blk_ltD HN91.out; have := HLT.out; have := HNB.out; have := HGE.out; omega)
      have HG92 := Lib.hid (grow_trans HG91.out (grow_more HY92.out))
      have HN92 := Lib.hid ((HY92.out.block (blk_ltD HN91.out)).trans HN91.out)
      have HM92 := Lib.hid (HM91.out.more HY92.out)
      have HK92 := Lib.hid (show ((w92.cell? ⟨MB, 4, none⟩ = some (.slice (some ⟨ab, ao, none⟩) an ac) ∧ w92.cell? ⟨ab, ao + r1, none⟩ = some (.slice (some ⟨rb, ro, none⟩) rm rc) ∧ w92.cell? ⟨rb, ro + r2, none⟩ = some (.int .i64 (xn : Int))) ∧ w92.cell? ⟨nb, r2, none⟩ = some (.string (nmB 104 r2))) ∧ w92.cell? ⟨GB, r1, none⟩ = some (.string (abcB r1)) from ⟨⟨⟨HY92.out.cell HK91.out.1.1, HY92.out.cell HK91.out.1.2.1, HY92.out.cell HK91.out.1.2.2⟩, HY92.out.cell HK91.out.2⟩, abc_cell HGB92.out HR3.out⟩)
      have hs4 := cell_lt HK92.out.2
      refine hK.out _ _ (fun _ => HK92.out.1) ?_
      clear hK K
      (try simp only [ptS, stA, st0, stS])
      refine wpAnyP_str (S' := fun W => ((W.cell? ⟨MB, 4, none⟩ = some (.slice (some ⟨ab, ao, none⟩) an ac) ∧ W.cell? ⟨ab, ao + r1, none⟩ = some (.slice (some ⟨rb, ro, none⟩) rm rc) ∧ W.cell? ⟨rb, ro + r2, none⟩ = some (.int .i64 (xn : Int))) ∧ W.cell? ⟨nb, r2, none⟩ = some (.string (nmB 104 r2))) ∧ W.cell? ⟨GB, r1, none⟩ = some (.string (abcB r1))) (fun _ h => h.1) ?_
      refine tkS (i := 2) (v := ?_) (by simp only [opA, opS, op0]; exact rfl) (by kernel_rfl) (by kernel_rfl) HK92.out ?_ ?_
      rotate_left
      · intro w hS
        (try dsimp only at hS); first | (go_simp; done) | (go_simp; with_reducible rfl)
      (try simp only [ptS, stA, st0, stS])
      refine tkS (i := 3) (v := ?_) (by simp only [opA, opS, op0]; exact rfl) (by kernel_rfl) (by kernel_rfl) HK92.out ?_ ?_
      rotate_left
      · intro w hS
        (try dsimp only at hS); first | (go_simp; done) | (go_simp; with_reducible rfl)
      (try simp only [ptS, stA, st0, stS])
      refine wpAnyP_ready (rs := [19]) (by kernel_rfl) (by simp) ?_
      refine (AllReadyP.cons (by simp only [opA, opS, op0]; exact rfl) (fun K hK => ?_) AllReadyP.nil)
      rw [if_pos (by kernel_rfl)]
      have HCR := Lib.hid (numbers_any MB d prm left xn l3 w92 HM92.out HD.out (by have := HXN.out; omega))
      obtain ⟨ts, l4, hR⟩ : ∃ t r, numsF d prm xn l3 = (t, r) := ⟨_, _, rfl⟩
      have HFOT := Lib.hid (show ∀ t ∈ ts, t.formed = true by have := numsF_formed d prm l3 xn; rw [hR] at this; exact this)
      have HLN := Lib.hid (show ∀ L : List Ex, L = ts → L.length ≤ 3 from fun L e => by rw [e]; have h := numsF_len d prm l3 xn; rw [hR] at h; have h2 := HXN.out; have h3 : ts.length = xn := h; omega)
      rw [hR] at HCR
      clear hR
      dsimp only at HCR
      go_simp
      refine HCR.out.mono ?_
      rintro e w93 ⟨c3, rfl, hr, hmk, hg⟩
      have HM93 := Lib.hid hmk
      have HG93 := Lib.hid (grow_trans HG92.out hg)
      have HN93 := Lib.hid ((hg.block NB (blk_ltD HN92.out) (fun e => by have := HLT.out; have := HNB.out; injection e with e; omega)).trans HN92.out)
      have HT93 := Lib.hid (show RepS .i64 (fun b => NB < b) w93 4 ts c3 from hr.mono (fun b hb => by have h9 : w92.heap.size ≤ b := hb; have := blk_ltD HN92.out; omega) (fun _ _ _ _ hc => hc) (Nat.le_refl _))
      have HFLT := Lib.hid hr.flds
      have HK93 := Lib.hid (show ((w93.cell? ⟨MB, 4, none⟩ = some (.slice (some ⟨ab, ao, none⟩) an ac) ∧ w93.cell? ⟨ab, ao + r1, none⟩ = some (.slice (some ⟨rb, ro, none⟩) rm rc) ∧ w93.cell? ⟨rb, ro + r2, none⟩ = some (.int .i64 (xn : Int))) ∧ w93.cell? ⟨nb, r2, none⟩ = some (.string (nmB 104 r2))) ∧ w93.cell? ⟨GB, r1, none⟩ = some (.string (abcB r1)) from ⟨⟨⟨(by have h := HM93.out.c34.2; rw [HDA.out] at h; exact h), cell_grown (Nat.ne_of_lt HAB.out) hg HK92.out.1.1.2.1, cell_grown (Nat.ne_of_lt HRB.out) hg HK92.out.1.1.2.2⟩, cell_grown (Nat.ne_of_gt HNBE.out) hg HK92.out.1.2⟩, cell_grown (Nat.ne_of_gt HGBN.out) hg HK92.out.2⟩)
      obtain ⟨ca3, cc3, hsh⟩ := hr.shape
      subst hsh
      generalize hlen : ts.length = tn at *
      clear hlen hr hmk hg HCR
      try go_wp2_with fail
      refine hK.out _ _ (fun _ => HK93.out) ?_
      clear hK K
      (try simp only [ptS, stA, st0, stS])
      refine tkS (i := 20) (v := ?_) (by simp only [opA, opS, op0]; exact rfl) (by kernel_rfl) (by kernel_rfl) HK93.out ?_ ?_
      rotate_left
      · intro w hS
        (try dsimp only at hS); first | (go_simp; done) | (go_simp; with_reducible rfl)
      (try simp only [ptS, stA, st0, stS])
      refine wpAnyP_ready (rs := [21]) (by kernel_rfl) (by simp) ?_
      refine (AllReadyP.cons (by simp only [opA, opS, op0]; exact rfl) (fun K hK => ?_) AllReadyP.nil)
      rw [if_pos (by kernel_rfl)]
      have n0' : w93.cell? ⟨NB, 0, none⟩ = some (.int .i64 0) := by simp [World.cell?, HN93.out]
      have f0' := thaw HN93.out 0
      have n1' : w93.cell? ⟨NB, 1, none⟩ = some (.string ⟨#[]⟩) := by simp [World.cell?, HN93.out]
      have f1' := thaw HN93.out 1
      have n2' : w93.cell? ⟨NB, 2, none⟩ = some (.string ⟨#[]⟩) := by simp [World.cell?, HN93.out]
      have f2' := thaw HN93.out 2
      have n3' : w93.cell? ⟨NB, 3, none⟩ = some (.slice none 0 0) := by simp [World.cell?, HN93.out]
      have f3' := thaw HN93.out 3
      have n4' : w93.cell? ⟨NB, 4, none⟩ = some (.slice none 0 0) := by simp [World.cell?, HN93.out]
      have f4' := thaw HN93.out 4
      have n5' : w93.cell? ⟨NB, 5, none⟩ = some (.slice none 0 0) := by simp [World.cell?, HN93.out]
      have f5' := thaw HN93.out 5
      have hbn := cell_lt n0'
      go_simp
      refine hK.out _ _ (gone (by kernel_rfl)) ?_
      clear hK K
      (try simp only [ptN])
      refine wpAnyP_done (by kernel_rfl) ?_ _
      go_wp2_with fail
      have HW := set6D HN93.out (.int .i64 6) (.string (abcB r1)) (.string (nmB 104 r2)) (.slice ca3 tn cc3) (.slice none 0 0) (.slice none 0 0)
      refine bodyPost_ret (v := .agg #[.int .i64 6, .string (abcB r1), .string (nmB 104 r2), .slice ca3 tn cc3, .slice none 0 0, .slice none 0 0]) (results_cell_row Try.results141 _ _ NB 128 _ (0, 0) _ rfl HW Try.underlying128 rfl (by kernel_rfl)) rfl ?_
      exact ⟨[.int .i64 6, .string (abcB r1), .string (nmB 104 r2), .slice ca3 tn cc3, .slice none 0 0, .slice none 0 0], left, l4, rfl, (fin6 HNB.out HLT.out HG93.out HM93.out (repUp HT93.out (by omega)) HFOT.out HFLT.out (HLN.out _ rfl)).1, (fin6 HNB.out HLT.out HG93.out HM93.out (repUp HT93.out (by omega)) HFOT.out HFLT.out (HLN.out _ rfl)).2.1, HLL.out.1, Int.le_refl _, (fin6 HNB.out HLT.out HG93.out HM93.out (repUp HT93.out (by omega)) HFOT.out HFLT.out (HLN.out _ rfl)).2.2⟩
    · rw [if_pos (by kernel_rfl)]
      have HCR := Lib.hid (numbers_any MB d prm left xn l3 w91 HM91.out HD.out (by have := HXN.out; omega))
      obtain ⟨ts, l4, hR⟩ : ∃ t r, numsF d prm xn l3 = (t, r) := ⟨_, _, rfl⟩
      have HFOT := Lib.hid (show ∀ t ∈ ts, t.formed = true by have := numsF_formed d prm l3 xn; rw [hR] at this; exact this)
      have HLN := Lib.hid (show ∀ L : List Ex, L = ts → L.length ≤ 3 from fun L e => by rw [e]; have h := numsF_len d prm l3 xn; rw [hR] at h; have h2 := HXN.out; have h3 : ts.length = xn := h; omega)
      rw [hR] at HCR
      clear hR
      dsimp only at HCR
      go_simp
      refine HCR.out.mono ?_
      rintro e w92 ⟨c3, rfl, hr, hmk, hg⟩
      have HM92 := Lib.hid hmk
      have HG92 := Lib.hid (grow_trans HG91.out hg)
      have HN92 := Lib.hid ((hg.block NB (blk_ltD HN91.out) (fun e => by have := HLT.out; have := HNB.out; injection e with e; omega)).trans HN91.out)
      have HT92 := Lib.hid (show RepS .i64 (fun b => NB < b) w92 4 ts c3 from hr.mono (fun b hb => by have h9 : w91.heap.size ≤ b := hb; have := blk_ltD HN91.out; omega) (fun _ _ _ _ hc => hc) (Nat.le_refl _))
      have HFLT := Lib.hid hr.flds
      have HK92 := Lib.hid (show (w92.cell? ⟨MB, 4, none⟩ = some (.slice (some ⟨ab, ao, none⟩) an ac) ∧ w92.cell? ⟨ab, ao + r1, none⟩ = some (.slice (some ⟨rb, ro, none⟩) rm rc) ∧ w92.cell? ⟨rb, ro + r2, none⟩ = some (.int .i64 (xn : Int))) ∧ w92.cell? ⟨nb, r2, none⟩ = some (.string (nmB 104 r2)) from ⟨⟨(by have h := HM92.out.c34.2; rw [HDA.out] at h; exact h), cell_grown (Nat.ne_of_lt HAB.out) hg HK91.out.1.2.1, cell_grown (Nat.ne_of_lt HRB.out) hg HK91.out.1.2.2⟩, cell_grown (Nat.ne_of_gt HNBE.out) hg HK91.out.2⟩)
      obtain ⟨ca3, cc3, hsh⟩ := hr.shape
      subst hsh
      generalize hlen : ts.length = tn at *
      clear hlen hr hmk hg HCR
      try go_wp2_with fail
      refine hK.out _ _ (fun _ => HK92.out) ?_
      clear hK K
      (try simp only [ptS, stA, st0, stS])
      refine wpAnyP_ready (rs := [0]) (by kernel_rfl) (by simp) ?_
      refine (AllReadyP.cons (by simp only [opA, op0]; exact rfl) (fun K hK => ?_) AllReadyP.nil)
      rw [if_pos (by kernel_rfl)]
      have HY93 := Lib.hid (more_allocD w92 (.cells #[.string ⟨#[97]⟩, .string ⟨#[98]⟩, .string ⟨#[99]⟩] 9))
      have HGB93 := Lib.hid (alloc_last w92 (.cells #[.string ⟨#[97]⟩, .string ⟨#[98]⟩, .string ⟨#[99]⟩] 9))
      obtain ⟨GB, HGE⟩ : ∃ B, Hid (B = w92.heap.size) := ⟨_, Lib.hid rfl⟩
      go_simp
      rw [← HGE.out] at HGB93
      try rw [← HGE.out]
      generalize w92.alloc (.cells #[.string ⟨#[97]⟩, .string ⟨#[98]⟩, .string ⟨#[99]⟩] 9) = w93 at *
      have HGBN := Lib.hid (show MB < GB from by have := blk_ltD HN92.out; have := HLT.out; have := HNB.out; have := HGE.out; omega)
      have HG93 := Lib.hid (grow_trans HG92.out (grow_more HY93.out))
      have HN93 := Lib.hid ((HY93.out.block (blk_ltD HN92.out)).trans HN92.out)
      have HM93 := Lib.hid (HM92.out.more HY93.out)
      have HT93 := Lib.hid (show RepS .i64 (fun b => NB < b) w93 4 ts (.slice ca3 tn cc3) from HT92.out.mono (fun _ k => k) (fun _ _ _ _ hc => HY93.out.cell hc) (Nat.le_refl _))
      have HK93 := Lib.hid (show ((w93.cell? ⟨MB, 4, none⟩ = some (.slice (some ⟨ab, ao, none⟩) an ac) ∧ w93.cell? ⟨ab, ao + r1, none⟩ = some (.slice (some ⟨rb, ro, none⟩) rm rc) ∧ w93.cell? ⟨rb, ro + r2, none⟩ = some (.int .i64 (xn : Int))) ∧ w93.cell? ⟨nb, r2, none⟩ = some (.string (nmB 104 r2))) ∧ w93.cell? ⟨GB, r1, none⟩ = some (.string (abcB r1)) from ⟨⟨⟨HY93.out.cell HK92.out.1.1, HY93.out.cell HK92.out.1.2.1, HY93.out.cell HK92.out.1.2.2⟩, HY93.out.cell HK92.out.2⟩, abc_cell HGB93.out HR3.out⟩)
      have hs4 := cell_lt HK93.out.2
      refine hK.out _ _ (fun _ => HK93.out.1) ?_
      clear hK K
      (try simp only [ptS, stA, st0, stS])
      refine wpAnyP_str (S' := fun W => ((W.cell? ⟨MB, 4, none⟩ = some (.slice (some ⟨ab, ao, none⟩) an ac) ∧ W.cell? ⟨ab, ao + r1, none⟩ = some (.slice (some ⟨rb, ro, none⟩) rm rc) ∧ W.cell? ⟨rb, ro + r2, none⟩ = some (.int .i64 (xn : Int))) ∧ W.cell? ⟨nb, r2, none⟩ = some (.string (nmB 104 r2))) ∧ W.cell? ⟨GB, r1, none⟩ = some (.string (abcB r1))) (fun _ h => h.1) ?_
      refine tkS (i := 2) (v := ?_) (by simp only [opA, opS, op0]; exact rfl) (by kernel_rfl) (by kernel_rfl) HK93.out ?_ ?_
      rotate_left
      · intro w hS
        (try dsimp only at hS); first | (go_simp; done) | (go_simp; with_reducible rfl)
      (try simp only [ptS, stA, st0, stS])
      refine tkS (i := 3) (v := ?_) (by simp only [opA, opS, op0]; exact rfl) (by kernel_rfl) (by kernel_rfl) HK93.out ?_ ?_
      rotate_left
      · intro w hS
        (try dsimp only at hS); first | (go_simp; done) | (go_simp; with_reducible rfl)
      (try simp only [ptS, stA, st0, stS])
      refine tkS (i := 20) (v := ?_) (by simp only [opA, opS, op0]; exact rfl) (by kernel_rfl) (by kernel_rfl) HK93.out ?_ ?_
      rotate_left
      · intro w hS
        (try dsimp only at hS); first | (go_simp; done) | (go_simp; with_reducible rfl)
      (try simp only [ptS, stA, st0, stS])
      refine wpAnyP_ready (rs := [21]) (by kernel_rfl) (by simp) ?_
      refine (AllReadyP.cons (by simp only [opA, opS, op0]; exact rfl) (fun K hK => ?_) AllReadyP.nil)
      rw [if_pos (by kernel_rfl)]
      have n0' : w93.cell? ⟨NB, 0, none⟩ = some (.int .i64 0) := by simp [World.cell?, HN93.out]
      have f0' := thaw HN93.out 0
      have n1' : w93.cell? ⟨NB, 1, none⟩ = some (.string ⟨#[]⟩) := by simp [World.cell?, HN93.out]
      have f1' := thaw HN93.out 1
      have n2' : w93.cell? ⟨NB, 2, none⟩ = some (.string ⟨#[]⟩) := by simp [World.cell?, HN93.out]
      have f2' := thaw HN93.out 2
      have n3' : w93.cell? ⟨NB, 3, none⟩ = some (.slice none 0 0) := by simp [World.cell?, HN93.out]
      have f3' := thaw HN93.out 3
      have n4' : w93.cell? ⟨NB, 4, none⟩ = some (.slice none 0 0) := by simp [World.cell?, HN93.out]
      have f4' := thaw HN93.out 4
      have n5' : w93.cell? ⟨NB, 5, none⟩ = some (.slice none 0 0) := by simp [World.cell?, HN93.out]
      have f5' := thaw HN93.out 5
      have hbn := cell_lt n0'
      go_simp
      refine hK.out _ _ (gone (by kernel_rfl)) ?_
      clear hK K
      (try simp only [ptN])
      refine wpAnyP_done (by kernel_rfl) ?_ _
      go_wp2_with fail
      have HW := set6D HN93.out (.int .i64 6) (.string (abcB r1)) (.string (nmB 104 r2)) (.slice ca3 tn cc3) (.slice none 0 0) (.slice none 0 0)
      refine bodyPost_ret (v := .agg #[.int .i64 6, .string (abcB r1), .string (nmB 104 r2), .slice ca3 tn cc3, .slice none 0 0, .slice none 0 0]) (results_cell_row Try.results141 _ _ NB 128 _ (0, 0) _ rfl HW Try.underlying128 rfl (by kernel_rfl)) rfl ?_
      exact ⟨[.int .i64 6, .string (abcB r1), .string (nmB 104 r2), .slice ca3 tn cc3, .slice none 0 0, .slice none 0 0], left, l4, rfl, (fin6 HNB.out HLT.out HG93.out HM93.out (repUp HT93.out (by omega)) HFOT.out HFLT.out (HLN.out _ rfl)).1, (fin6 HNB.out HLT.out HG93.out HM93.out (repUp HT93.out (by omega)) HFOT.out HFLT.out (HLN.out _ rfl)).2.1, HLL.out.1, Int.le_refl _, (fin6 HNB.out HLT.out HG93.out HM93.out (repUp HT93.out (by omega)) HFOT.out HFLT.out (HLN.out _ rfl)).2.2⟩
end Go.Proofs.Ytekhoanjpnjaeaa

