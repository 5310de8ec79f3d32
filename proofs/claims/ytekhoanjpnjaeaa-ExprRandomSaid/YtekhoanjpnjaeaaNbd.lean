/- Texts MkJ, laid together. -/
import Derived.Test.YtekhoanjpnjaeaaNx
/- (*maker).stmt (141): the arm k = 10. -/
namespace Go.Proofs.Ytekhoanjpnjaeaa
open Go.RowKit
set_option maxRecDepth 100000 in
set_option maxHeartbeats 4000000 in
theorem stmt10_any (MB : Nat) (d : MkD) (prm left dp : Int) (l : List Int) (w : World) (h : MkAt w MB d prm left l) (hd : d.Ok prm) (hfl : 0 ≤ d.flags ∧ d.flags ≤ 2) (har : ArOk w MB d) (hl0 : 0 ≤ left) (hl9 : left ≤ 12) :
    Calls Try.prog 141 #[.pointer (some ⟨MB, 0, none⟩), .int .i64 10, .int .i64 dp] w fun e w' => ∃ cs left' l', e = .returned (.agg cs.toArray) ∧ StmtC (fun b => w.heap.size ≤ b) w' cs ∧ MkAt w' MB d prm left' l' ∧ 0 ≤ left' ∧ left' ≤ left ∧ w.grownBy w' (some MB) := by
  have HD := Lib.hid hd
  have HFG := Lib.hid hfl
  have HLL := Lib.hid (And.intro hl0 hl9)
  have HA := Lib.hid (more_allocD w (.cells #[.int .i64 0, .string ⟨#[]⟩, .string ⟨#[]⟩, .slice none 0 0, .slice none 0 0, .slice none 0 0] 128))
  have HN1 := Lib.hid (alloc_last w (.cells #[.int .i64 0, .string ⟨#[]⟩, .string ⟨#[]⟩, .slice none 0 0, .slice none 0 0, .slice none 0 0] 128))
  have HM1 := Lib.hid (h.more HA.out)
  have HLT := Lib.hid h.lt
  have HAR := Lib.hid har
  clear h hd hfl har hl0 hl9
  obtain ⟨NB, HNB⟩ : ∃ B, Hid (B = w.heap.size) := ⟨_, Lib.hid rfl⟩
  rw [← HNB.out] at HN1
  have HG1 := Lib.hid (show w.grownBy _ (some MB) from grow_more (B := MB) HA.out)
  clear HFG
  obtain ⟨ab, ao, an, ac, hda, hn3, ho0, hoa, hab, hrows⟩ := HAR.out
  have HAB := Lib.hid hab
  have HAN := Lib.hid (And.intro hn3 (And.intro ho0 hoa))
  have HROWS := Lib.hid hrows
  have HDA := Lib.hid hda
  clear hab hrows hda hn3 ho0 hoa
  obtain ⟨on, hon⟩ : ∃ n : Nat, d.own = n := ⟨d.own.toNat, by have := HAN.out; omega⟩
  have HON := Lib.hid hon
  have HLO := Lib.hid (show on < an from by have := HAN.out; omega)
  clear hon
  obtain ⟨rv, hrv, hro⟩ := HROWS.out on HLO.out
  obtain ⟨rb, ro, rm, rc, rfl, hm1, hm3, hrb, hxs⟩ := hro.at
  have HRM := Lib.hid (And.intro hm1 hm3)
  have HRB := Lib.hid hrb
  have HXS := Lib.hid hxs
  have HRV := Lib.hid hrv
  clear hrv hro hm1 hm3 hrb hxs
  go_enter Try.func141, Try.ntmps141
  go_upto_region 19 with fail
  rw [← HNB.out]
  generalize w.alloc (.cells #[.int .i64 0, .string ⟨#[]⟩, .string ⟨#[]⟩, .slice none 0 0, .slice none 0 0, .slice none 0 0] 128) = w1 at *
  have HDR := Lib.hid (more_drew w1)
  refine wp_region_heldP (S := fun W => W.cell? ⟨MB, 3, none⟩ = some (.int .i64 (on : Int)) ∧ W.cell? ⟨MB, 4, none⟩ = some (.slice (some ⟨ab, ao, none⟩) an ac) ∧ W.cell? ⟨ab, ao + on, none⟩ = some (.slice (some ⟨rb, ro, none⟩) rm rc)) 13 (by kernel_rfl) ?_
  generalize w1.drew = w90 at *
  have HG90 := Lib.hid (grow_trans HG1.out (grow_more HDR.out))
  have HN90 := Lib.hid ((HDR.out.block (blk_ltD HN1.out)).trans HN1.out)
  have HM90 := Lib.hid (HM1.out.more HDR.out)
  have HK90 := Lib.hid (show w90.cell? ⟨MB, 3, none⟩ = some (.int .i64 (on : Int)) ∧ w90.cell? ⟨MB, 4, none⟩ = some (.slice (some ⟨ab, ao, none⟩) an ac) ∧ w90.cell? ⟨ab, ao + on, none⟩ = some (.slice (some ⟨rb, ro, none⟩) rm rc) from ⟨by have h := HM90.out.c34.1; rw [HON.out] at h; exact h, by have h := HM90.out.c34.2; rw [HDA.out] at h; exact h, cell_grown (Nat.ne_of_lt HAB.out) HG90.out HRV.out⟩)
  have hll : (on : Int) < (an : Int) := by have := HLO.out; omega
  have hll2 : on < an := HLO.out
  have hs1 := cell_lt HK90.out.1
  have hs2 := cell_lt HK90.out.2.2
  have HC1 := Lib.hid (next_any MB d prm left (rm : Int) l w90 HM90.out (by have := HRM.out; omega) (by have := HRM.out; omega))
  have HR1 := Lib.hid (nextB_rng l (n := (rm : Int)) (by have := HRM.out; omega))
  obtain ⟨r2, HRE1⟩ : ∃ r : Nat, Hid ((nextB l rm).1 = r) := ⟨(nextB l rm).1.toNat, Lib.hid (by have := HR1.out; omega)⟩
  obtain ⟨l2, HL2⟩ : ∃ s, Hid ((nextB l rm).2 = s) := ⟨_, Lib.hid rfl⟩
  rw [HRE1.out] at HR1
  rw [HRE1.out, HL2.out] at HC1
  clear HRE1 HL2
  refine tkS (i := 0) (v := ?_) (by simp only [opA, op0]; exact rfl) (by kernel_rfl) (by kernel_rfl) HK90.out ?_ ?_
  rotate_left
  · intro w hS
    (try dsimp only at hS); first | (go_simp; done) | (go_simp; with_reducible rfl)
  (try simp only [ptS, stA, st0, stS])
  refine tkS (i := 1) (v := ?_) (by simp only [opA, opS, op0]; exact rfl) (by kernel_rfl) (by kernel_rfl) HK90.out ?_ ?_
  rotate_left
  · intro w hS
    (try dsimp only at hS); first | (go_simp; done) | (go_simp; with_reducible rfl)
  (try simp only [ptS, stA, st0, stS])
  refine tkS (i := 2) (v := ?_) (by simp only [opA, opS, op0]; exact rfl) (by kernel_rfl) (by kernel_rfl) HK90.out ?_ ?_
  rotate_left
  · intro w hS
    (try dsimp only at hS); first | (go_simp; done) | (go_simp; with_reducible rfl)
  (try simp only [ptS, stA, st0, stS])
  refine tkS (i := 3) (v := ?_) (by simp only [opA, opS, op0]; exact rfl) (by kernel_rfl) (by kernel_rfl) HK90.out ?_ ?_
  rotate_left
  · intro w hS
    (try dsimp only at hS); first | (go_simp; done) | (go_simp; with_reducible rfl)
  (try simp only [ptS, stA, st0, stS])
  refine tkS (i := 4) (v := ?_) (by simp only [opA, opS, op0]; exact rfl) (by kernel_rfl) (by kernel_rfl) HK90.out ?_ ?_
  rotate_left
  · intro w hS
    (try dsimp only at hS); first | (go_simp; done) | (go_simp; with_reducible rfl)
  (try simp only [ptS, stA, st0, stS])
  refine tkS (i := 5) (v := ?_) (by simp only [opA, opS, op0]; exact rfl) (by kernel_rfl) (by kernel_rfl) HK90.out ?_ ?_
  rotate_left
  · intro w hS
    (try dsimp only at hS); first | (go_simp; done) | (go_simp; with_reducible rfl)
  (try simp only [ptS, stA, st0, stS])
  refine tkS (i := 6) (v := ?_) (by simp only [opA, opS, op0]; exact rfl) (by kernel_rfl) (by kernel_rfl) HK90.out ?_ ?_
  rotate_left
  · intro w hS
    (try dsimp only at hS); first | (go_simp; done) | (go_simp; with_reducible rfl)
  (try simp only [ptS, stA, st0, stS])
  refine tkS (i := 7) (v := ?_) (by simp only [opA, opS, op0]; exact rfl) (by kernel_rfl) (by kernel_rfl) HK90.out ?_ ?_
  rotate_left
  · intro w hS
    (try dsimp only at hS); first | (go_simp; done) | (go_simp; with_reducible rfl)
  (try simp only [ptS, stA, st0, stS])
  refine tkS (i := 8) (v := ?_) (by simp only [opA, opS, op0]; exact rfl) (by kernel_rfl) (by kernel_rfl) HK90.out ?_ ?_
  rotate_left
  · intro w hS
    (try dsimp only at hS); first | (go_simp; done) | (go_simp; with_reducible rfl)
  (try simp only [ptS, stA, st0, stS])
  refine tkS (i := 9) (v := ?_) (by simp only [opA, opS, op0]; exact rfl) (by kernel_rfl) (by kernel_rfl) HK90.out ?_ ?_
  rotate_left
  · intro w hS
    (try dsimp only at hS); first | (go_simp; done) | (go_simp; with_reducible rfl)
  (try simp only [ptS, stA, st0, stS])
  refine tkS (i := 10) (v := ?_) (by simp only [opA, opS, op0]; exact rfl) (by kernel_rfl) (by kernel_rfl) HK90.out ?_ ?_
  rotate_left
  · intro w hS
    (try dsimp only at hS); first | (go_simp; done) | (go_simp; with_reducible rfl)
  (try simp only [ptS, stA, st0, stS])
  refine tkS (i := 11) (v := ?_) (by simp only [opA, opS, op0]; exact rfl) (by kernel_rfl) (by kernel_rfl) HK90.out ?_ ?_
  rotate_left
  · intro w hS
    (try dsimp only at hS); first | (go_simp; done) | (go_simp; with_reducible rfl)
  (try simp only [ptS, stA, st0, stS])
  refine wpAnyP_ready (rs := [12]) (by kernel_rfl) (by simp) ?_
  refine (AllReadyP.cons (by simp only [opA, opS, op0]; exact rfl) (fun K hK => ?_) AllReadyP.nil)
  rw [if_pos (by kernel_rfl)]
  go_simp
  refine HC1.out.mono ?_
  rintro e w91 ⟨rfl, hmk, hg⟩
  have HM91 := Lib.hid hmk
  have HG91 := Lib.hid (grow_trans HG90.out hg)
  have HN91 := Lib.hid ((hg.block NB (blk_ltD HN90.out) (fun e => by have := HLT.out; have := HNB.out; injection e with e; omega)).trans HN90.out)
  have HK91 := Lib.hid (show w91.cell? ⟨MB, 3, none⟩ = some (.int .i64 (on : Int)) ∧ w91.cell? ⟨MB, 4, none⟩ = some (.slice (some ⟨ab, ao, none⟩) an ac) ∧ w91.cell? ⟨ab, ao + on, none⟩ = some (.slice (some ⟨rb, ro, none⟩) rm rc) from ⟨(by have h := HM91.out.c34.1; rw [HON.out] at h; exact h), (by have h := HM91.out.c34.2; rw [HDA.out] at h; exact h), cell_grown (Nat.ne_of_lt HAB.out) hg HK90.out.2.2⟩)
  clear hmk hg HC1
  try go_wp2_with fail
  refine hK.out _ _ (fun _ => HK91.out) ?_
  clear hK K
  (try simp only [ptS, stA, st0, stS])
  refine wpAnyP_ready (rs := [13]) (by kernel_rfl) (by simp) ?_
  refine (AllReadyP.cons (by simp only [opA, opS, op0]; exact rfl) (fun K hK => ?_) AllReadyP.nil)
  rw [if_pos (by kernel_rfl)]
  go_simp
  refine hK.out _ _ (gone (by kernel_rfl)) ?_
  clear hK K
  (try simp only [ptS, stA, st0, stS])
  refine wpAnyP_done (by kernel_rfl) ?_ _
  have HLR2 := Lib.hid (show r2 < rm from by have := HR1.out; omega)
  have HR4 := Lib.hid (show r2 < 3 from by have := HLR2.out; have := HRM.out; omega)
  obtain ⟨xn, hxc, hx2⟩ := HXS.out r2 HLR2.out
  have HXN := Lib.hid hx2
  have HXC := Lib.hid hxc
  clear hxc hx2 hs1 hs2
  go_wp2_with fail
  have HCR := Lib.hid (number_any 3 MB d prm left 1 l2 w91 HM91.out HD.out (by omega) (by omega) (by omega))
  obtain ⟨t92, l3, hR⟩ : ∃ t r, numF d prm 3 1 l2 = (t, r) := ⟨_, _, rfl⟩
  have HFO92 := Lib.hid (show t92.formed = true by have := numF_formed d prm 3 1 l2; rw [hR] at this; exact this)
  rw [hR] at HCR
  clear hR
  refine HCR.out.mono ?_
  rintro e w92 ⟨c92, rfl, hf, hr, hmk, hg⟩
  have HFl92 := Lib.hid hf
  have HM92 := Lib.hid hmk
  have HG92 := Lib.hid (grow_trans HG91.out hg)
  have HN92 := Lib.hid ((hg.block NB (blk_ltD HN91.out) (fun e => by have := HLT.out; have := HNB.out; injection e with e; omega)).trans HN91.out)
  have HR92 := Lib.hid (show RepS .i64 (fun b => NB < b) w92 3 t92.args c92 from hr.mono (fun b hb => by have h9 : w91.heap.size ≤ b := hb; have := blk_ltD HN91.out; omega) (fun _ _ _ _ hc => hc) (Nat.le_refl _))
  obtain ⟨ca92, cc92, hsh⟩ := hr.shape
  dsimp only at hsh
  subst hsh
  clear hf hr hmk hg HCR
  unfold agg
  have HX := Lib.hid (more_allocD w92 (.cells #[.int .i64 t92.op, .string t92.name, .int .i64 t92.n, .slice ca92 t92.args.length cc92] 36))
  have HTB93 := Lib.hid (alloc_last w92 (.cells #[.int .i64 t92.op, .string t92.name, .int .i64 t92.n, .slice ca92 t92.args.length cc92] 36))
  obtain ⟨TB, HTBE⟩ : ∃ B, Hid (B = w92.heap.size) := ⟨_, Lib.hid rfl⟩
  rw [← HTBE.out] at HTB93
  have HTBN := Lib.hid (show NB < TB by rw [HTBE.out]; exact blk_ltD HN92.out)
  go_upto_region 21 with fail
  rw [← HTBE.out]
  generalize w92.alloc (.cells #[.int .i64 t92.op, .string t92.name, .int .i64 t92.n, .slice ca92 t92.args.length cc92] 36) = w93 at *
  have HG93 := Lib.hid (grow_trans HG92.out (grow_more HX.out))
  have HN93 := Lib.hid ((HX.out.block (blk_ltD HN92.out)).trans HN92.out)
  have HM93 := Lib.hid (HM92.out.more HX.out)
  have HR93 := Lib.hid (show RepS .i64 (fun b => NB < b) w93 3 t92.args (.slice ca92 t92.args.length cc92) from HR92.out.mono (fun _ k => k) (fun _ _ _ _ hc => HX.out.cell hc) (Nat.le_refl _))
  have HDR2 := Lib.hid (more_drew w93)
  refine wp_region_heldP (S := fun W => W.cell? ⟨MB, 3, none⟩ = some (.int .i64 (on : Int)) ∧ W.cell? ⟨MB, 4, none⟩ = some (.slice (some ⟨ab, ao, none⟩) an ac) ∧ W.cell? ⟨ab, ao + on, none⟩ = some (.slice (some ⟨rb, ro, none⟩) rm rc) ∧ W.cell? ⟨rb, ro + r2, none⟩ = some (.int .i64 (xn : Int)) ∧ W.cell? ⟨TB, 0, none⟩ = some (.int .i64 t92.op) ∧ W.cell? ⟨TB, 1, none⟩ = some (.string t92.name) ∧ W.cell? ⟨TB, 2, none⟩ = some (.int .i64 t92.n) ∧ W.cell? ⟨TB, 3, none⟩ = some (.slice ca92 t92.args.length cc92)) 23 (by kernel_rfl) ?_
  generalize w93.drew = w94 at *
  have HG94 := Lib.hid (grow_trans HG93.out (grow_more HDR2.out))
  have HN94 := Lib.hid ((HDR2.out.block (blk_ltD HN93.out)).trans HN93.out)
  have HM94 := Lib.hid (HM93.out.more HDR2.out)
  have HTB94 := Lib.hid ((HDR2.out.block (blk_ltD HTB93.out)).trans HTB93.out)
  have HTBM := Lib.hid (show MB < TB from by have := HLT.out; have := HNB.out; have := HTBN.out; omega)
  have HXT94 := Lib.hid (show RepS .i64 (fun b => NB < b ∧ b < TB) w94 3 t92.args (.slice ca92 t92.args.length cc92) from HR92.out.mono2 (fun b off u hb hc => ⟨⟨hb, by rw [HTBE.out]; exact World.block_lt_of_cell? w92 ⟨b, off, none⟩ hc⟩, HDR2.out.cell (HX.out.cell hc)⟩) (Nat.le_refl _))
  have HK94 := Lib.hid (show w94.cell? ⟨MB, 3, none⟩ = some (.int .i64 (on : Int)) ∧ w94.cell? ⟨MB, 4, none⟩ = some (.slice (some ⟨ab, ao, none⟩) an ac) ∧ w94.cell? ⟨ab, ao + on, none⟩ = some (.slice (some ⟨rb, ro, none⟩) rm rc) ∧ w94.cell? ⟨rb, ro + r2, none⟩ = some (.int .i64 (xn : Int)) ∧ w94.cell? ⟨TB, 0, none⟩ = some (.int .i64 t92.op) ∧ w94.cell? ⟨TB, 1, none⟩ = some (.string t92.name) ∧ w94.cell? ⟨TB, 2, none⟩ = some (.int .i64 t92.n) ∧ w94.cell? ⟨TB, 3, none⟩ = some (.slice ca92 t92.args.length cc92) from ⟨by have h := HM94.out.c34.1; rw [HON.out] at h; exact h, by have h := HM94.out.c34.2; rw [HDA.out] at h; exact h, cell_grown (Nat.ne_of_lt HAB.out) HG94.out HRV.out, cell_grown (Nat.ne_of_lt HRB.out) HG94.out HXC.out, by simp [World.cell?, HTB94.out], by simp [World.cell?, HTB94.out], by simp [World.cell?, HTB94.out], by simp [World.cell?, HTB94.out]⟩)
  have hs1 := cell_lt HK94.out.1
  have hs2 := cell_lt HK94.out.2.2.1
  have hs3 := cell_lt HK94.out.2.2.2.1
  have hs4 := cell_lt HK94.out.2.2.2.2.1
  have hlm : (r2 : Int) < (rm : Int) := by have := HLR2.out; omega
  have hlm2 : r2 < rm := HLR2.out
  have h23 : r2 < 3 := HR4.out
  have h23i : (r2 : Int) < 3 := by omega
  have hll : (on : Int) < (an : Int) := by have := HLO.out; omega
  have hll2 : on < an := HLO.out
  clear HM1 HN1 HG1 HM90 HN90 HG90 HM91 HN91 HG91 HM92 HN92 HG92 HM93 HN93 HG93 HTB93 HR92 HR93 HTB94
  refine tkS (i := 1) (v := ?_) (by simp only [opA, opS, op0]; exact rfl) (by kernel_rfl) (by kernel_rfl) HK94.out ?_ ?_
  rotate_left
  · intro w hS
    (try dsimp only at hS); first | (go_simp; done) | (go_simp; with_reducible rfl)
  (try simp only [ptS, stA, st0, stS])
  refine tkS (i := 4) (v := ?_) (by simp only [opA, opS, op0]; exact rfl) (by kernel_rfl) (by kernel_rfl) HK94.out ?_ ?_
  rotate_left
  · intro w hS
    (try dsimp only at hS); first | (go_simp; done) | (go_simp; with_reducible rfl)
  (try simp only [ptS, stA, st0, stS])
  refine tkS (i := 6) (v := ?_) (by simp only [opA, opS, op0]; exact rfl) (by kernel_rfl) (by kernel_rfl) HK94.out ?_ ?_
  rotate_left
  · intro w hS
    (try dsimp only at hS); first | (go_simp; done) | (go_simp; with_reducible rfl)
  (try simp only [ptS, stA, st0, stS])
  refine tkS (i := 7) (v := ?_) (by simp only [opA, opS, op0]; exact rfl) (by kernel_rfl) (by kernel_rfl) HK94.out ?_ ?_
  rotate_left
  · intro w hS
    (try dsimp only at hS); first | (go_simp; done) | (go_simp; with_reducible rfl)
  (try simp only [ptS, stA, st0, stS])
  refine tkS (i := 8) (v := ?_) (by simp only [opA, opS, op0]; exact rfl) (by kernel_rfl) (by kernel_rfl) HK94.out ?_ ?_
  rotate_left
  · intro w hS
    (try dsimp only at hS); first | (go_simp; done) | (go_simp; with_reducible rfl)
  (try simp only [ptS, stA, st0, stS])
  refine tkS (i := 9) (v := ?_) (by simp only [opA, opS, op0]; exact rfl) (by kernel_rfl) (by kernel_rfl) HK94.out ?_ ?_
  rotate_left
  · intro w hS
    (try dsimp only at hS); first | (go_simp; done) | (go_simp; with_reducible rfl)
  (try simp only [ptS, stA, st0, stS])
  refine tkS (i := 10) (v := ?_) (by simp only [opA, opS, op0]; exact rfl) (by kernel_rfl) (by kernel_rfl) HK94.out ?_ ?_
  rotate_left
  · intro w hS
    (try dsimp only at hS); first | (go_simp; done) | (go_simp; with_reducible rfl)
  (try simp only [ptS, stA, st0, stS])
  refine tkS (i := 11) (v := ?_) (by simp only [opA, opS, op0]; exact rfl) (by kernel_rfl) (by kernel_rfl) HK94.out ?_ ?_
  rotate_left
  · intro w hS
    (try dsimp only at hS); first | (go_simp; done) | (go_simp; with_reducible rfl)
  (try simp only [ptS, stA, st0, stS])
  refine tkS (i := 12) (v := ?_) (by simp only [opA, opS, op0]; exact rfl) (by kernel_rfl) (by kernel_rfl) HK94.out ?_ ?_
  rotate_left
  · intro w hS
    (try dsimp only at hS); first | (go_simp; done) | (go_simp; with_reducible rfl)
  (try simp only [ptS, stA, st0, stS])
  refine tkS (i := 13) (v := ?_) (by simp only [opA, opS, op0]; exact rfl) (by kernel_rfl) (by kernel_rfl) HK94.out ?_ ?_
  rotate_left
  · intro w hS
    (try dsimp only at hS); first | (go_simp; done) | (go_simp; with_reducible rfl)
  (try simp only [ptS, stA, st0, stS])
  refine tkS (i := 14) (v := ?_) (by simp only [opA, opS, op0]; exact rfl) (by kernel_rfl) (by kernel_rfl) HK94.out ?_ ?_
  rotate_left
  · intro w hS
    (try dsimp only at hS); first | (go_simp; done) | (go_simp; with_reducible rfl)
  (try simp only [ptS, stA, st0, stS])
  refine tkS (i := 15) (v := ?_) (by simp only [opA, opS, op0]; exact rfl) (by kernel_rfl) (by kernel_rfl) HK94.out ?_ ?_
  rotate_left
  · intro w hS
    (try dsimp only at hS); first | (go_simp; done) | (go_simp; with_reducible rfl)
  (try simp only [ptS, stA, st0, stS])
  refine tkS (i := 16) (v := ?_) (by simp only [opA, opS, op0]; exact rfl) (by kernel_rfl) (by kernel_rfl) HK94.out ?_ ?_
  rotate_left
  · intro w hS
    (try dsimp only at hS); first | (go_simp; done) | (go_simp; with_reducible rfl)
  (try simp only [ptS, stA, st0, stS])
  refine tkS (i := 17) (v := ?_) (by simp only [opA, opS, op0]; exact rfl) (by kernel_rfl) (by kernel_rfl) HK94.out ?_ ?_
  rotate_left
  · intro w hS
    (try dsimp only at hS); first | (go_simp; done) | (go_simp; with_reducible rfl)
  (try simp only [ptS, stA, st0, stS])
  refine tkS (i := 18) (v := ?_) (by simp only [opA, opS, op0]; exact rfl) (by kernel_rfl) (by kernel_rfl) HK94.out ?_ ?_
  rotate_left
  · intro w hS
    (try dsimp only at hS); first | (go_simp; done) | (go_simp; with_reducible rfl)
  (try simp only [ptS, stA, st0, stS])
  refine tkS (i := 19) (v := ?_) (by simp only [opA, opS, op0]; exact rfl) (by kernel_rfl) (by kernel_rfl) HK94.out ?_ ?_
  rotate_left
  · intro w hS
    (try dsimp only at hS); first | (go_simp; done) | (go_simp; with_reducible rfl)
  (try simp only [ptS, stA, st0, stS])
  refine wpAnyP_ready (rs := [0, 5]) (by kernel_rfl) (by simp) ?_
  refine (AllReadyP.cons (by simp only [opA, op0]; exact rfl) (fun K hK => ?_) (AllReadyP.cons (by simp only [opA, opS, op0]; exact rfl) (fun K hK => ?_) AllReadyP.nil))
  · rw [if_pos (by kernel_rfl)]
    have HC := Lib.hid (names_any 104 3 104 3 w94 rfl rfl (by omega) (by omega))
    go_simp
    refine HC.out.mono ?_
    rintro e w95 ⟨⟨nv, rfl, ho⟩, hm⟩
    have HX95 := Lib.hid hm
    obtain ⟨nb, nc, rfl, hnb, hnx⟩ := name_cell ho (r := r2) (by have := HR4.out; omega)
    have HNGE := Lib.hid hnb
    have HNBE := Lib.hid (show MB < nb from by have := blk_ltD HN94.out; have := HLT.out; have := HNB.out; omega)
    have HNC95 := Lib.hid hnx
    clear ho hm HC hnb hnx
    have HG95 := Lib.hid (grow_trans HG94.out (grow_more HX95.out))
    have HN95 := Lib.hid ((HX95.out.block (blk_ltD HN94.out)).trans HN94.out)
    have HM95 := Lib.hid (HM94.out.more HX95.out)
    have HXT95 := Lib.hid (show RepS .i64 (fun b => NB < b ∧ b < TB) w95 3 t92.args (.slice ca92 t92.args.length cc92) from HXT94.out.mono2 (fun b off u hb hc => ⟨hb, HX95.out.cell hc⟩) (Nat.le_refl _))
    have HK95 := Lib.hid (show (w95.cell? ⟨MB, 3, none⟩ = some (.int .i64 (on : Int)) ∧ w95.cell? ⟨MB, 4, none⟩ = some (.slice (some ⟨ab, ao, none⟩) an ac) ∧ w95.cell? ⟨ab, ao + on, none⟩ = some (.slice (some ⟨rb, ro, none⟩) rm rc) ∧ w95.cell? ⟨rb, ro + r2, none⟩ = some (.int .i64 (xn : Int)) ∧ w95.cell? ⟨TB, 0, none⟩ = some (.int .i64 t92.op) ∧ w95.cell? ⟨TB, 1, none⟩ = some (.string t92.name) ∧ w95.cell? ⟨TB, 2, none⟩ = some (.int .i64 t92.n) ∧ w95.cell? ⟨TB, 3, none⟩ = some (.slice ca92 t92.args.length cc92)) ∧ w95.cell? ⟨nb, r2, none⟩ = some (.string (nmB 104 r2)) from ⟨⟨HX95.out.cell HK94.out.1, HX95.out.cell HK94.out.2.1, HX95.out.cell HK94.out.2.2.1, HX95.out.cell HK94.out.2.2.2.1, HX95.out.cell HK94.out.2.2.2.2.1, HX95.out.cell HK94.out.2.2.2.2.2.1, HX95.out.cell HK94.out.2.2.2.2.2.2.1, HX95.out.cell HK94.out.2.2.2.2.2.2.2⟩, HNC95.out⟩)
    have hs5 := cell_lt HK95.out.2
    try go_wp2_with fail
    refine hK.out _ _ (fun _ => HK95.out.1) ?_
    clear hK K
    (try simp only [ptS, stA, st0, stS])
    refine wpAnyP_str (S' := fun W => (W.cell? ⟨MB, 3, none⟩ = some (.int .i64 (on : Int)) ∧ W.cell? ⟨MB, 4, none⟩ = some (.slice (some ⟨ab, ao, none⟩) an ac) ∧ W.cell? ⟨ab, ao + on, none⟩ = some (.slice (some ⟨rb, ro, none⟩) rm rc) ∧ W.cell? ⟨rb, ro + r2, none⟩ = some (.int .i64 (xn : Int)) ∧ W.cell? ⟨TB, 0, none⟩ = some (.int .i64 t92.op) ∧ W.cell? ⟨TB, 1, none⟩ = some (.string t92.name) ∧ W.cell? ⟨TB, 2, none⟩ = some (.int .i64 t92.n) ∧ W.cell? ⟨TB, 3, none⟩ = some (.slice ca92 t92.args.length cc92)) ∧ W.cell? ⟨nb, r2, none⟩ = some (.string (nmB 104 r2))) (fun _ h => h.1) ?_
    refine tkS (i := 2) (v := ?_) (by simp only [opA, opS, op0]; exact rfl) (by kernel_rfl) (by kernel_rfl) HK95.out ?_ ?_
    rotate_left
    · intro w hS
      (try dsimp only at hS); first | (go_simp; done) | (go_simp; with_reducible rfl)
    (try simp only [ptS, stA, st0, stS])
    refine tkS (i := 3) (v := ?_) (by simp only [opA, opS, op0]; exact rfl) (by kernel_rfl) (by kernel_rfl) HK95.out ?_ ?_
    rotate_left
    · intro w hS
      (try dsimp only at hS); first | (go_simp; done) | (go_simp; with_reducible rfl)
    (try simp only [ptS, stA, st0, stS])
    refine wpAnyP_ready (rs := [5, 20]) (by kernel_rfl) (by simp) ?_
    refine (AllReadyP.cons (by simp only [opA, opS, op0]; exact rfl) (fun K hK => ?_) (AllReadyP.cons (by simp only [opA, opS, op0]; exact rfl) (fun K hK => ?_) AllReadyP.nil))
    · rw [if_pos (by kernel_rfl)]
      have HY96 := Lib.hid (more_allocD w95 (.cells #[.int .i64 t92.op, .string t92.name, .int .i64 t92.n, .slice ca92 t92.args.length cc92] 36))
      have HRBW96 := Lib.hid (alloc_last w95 (.cells #[.int .i64 t92.op, .string t92.name, .int .i64 t92.n, .slice ca92 t92.args.length cc92] 36))
      obtain ⟨RB, HRE⟩ : ∃ B, Hid (B = w95.heap.size) := ⟨_, Lib.hid rfl⟩
      go_simp
      rw [← HRE.out] at HRBW96
      try rw [← HRE.out]
      generalize w95.alloc (.cells #[.int .i64 t92.op, .string t92.name, .int .i64 t92.n, .slice ca92 t92.args.length cc92] 36) = w96 at *
      have HRBN := Lib.hid (show NB < RB ∧ TB < RB from by have h1 := blk_ltD HN95.out; have h2 := cell_lt HK95.out.1.2.2.2.2.1; have := HRE.out; omega)
      have HNR := Lib.hid (show nb ≠ RB from fun e => by have h1 := cell_lt HK95.out.2; have := HRE.out; omega)
      have HG96 := Lib.hid (grow_trans HG95.out (grow_more HY96.out))
      have HN96 := Lib.hid ((HY96.out.block (blk_ltD HN95.out)).trans HN95.out)
      have HM96 := Lib.hid (HM95.out.more HY96.out)
      have HXT96 := Lib.hid (show RepS .i64 (fun b => NB < b ∧ b < TB) w96 3 t92.args (.slice ca92 t92.args.length cc92) from HXT95.out.mono2 (fun b off u hb hc => ⟨hb, HY96.out.cell hc⟩) (Nat.le_refl _))
      have HK96 := Lib.hid (show (w96.cell? ⟨MB, 3, none⟩ = some (.int .i64 (on : Int)) ∧ w96.cell? ⟨MB, 4, none⟩ = some (.slice (some ⟨ab, ao, none⟩) an ac) ∧ w96.cell? ⟨ab, ao + on, none⟩ = some (.slice (some ⟨rb, ro, none⟩) rm rc) ∧ w96.cell? ⟨rb, ro + r2, none⟩ = some (.int .i64 (xn : Int)) ∧ w96.cell? ⟨TB, 0, none⟩ = some (.int .i64 t92.op) ∧ w96.cell? ⟨TB, 1, none⟩ = some (.string t92.name) ∧ w96.cell? ⟨TB, 2, none⟩ = some (.int .i64 t92.n) ∧ w96.cell? ⟨TB, 3, none⟩ = some (.slice ca92 t92.args.length cc92)) ∧ w96.cell? ⟨nb, r2, none⟩ = some (.string (nmB 104 r2)) from ⟨⟨HY96.out.cell HK95.out.1.1, HY96.out.cell HK95.out.1.2.1, HY96.out.cell HK95.out.1.2.2.1, HY96.out.cell HK95.out.1.2.2.2.1, HY96.out.cell HK95.out.1.2.2.2.2.1, HY96.out.cell HK95.out.1.2.2.2.2.2.1, HY96.out.cell HK95.out.1.2.2.2.2.2.2.1, HY96.out.cell HK95.out.1.2.2.2.2.2.2.2⟩, HY96.out.cell HK95.out.2⟩)
      refine hK.out _ _ (fun _ => HK96.out) ?_
      clear hK K
      (try simp only [ptS, stA, st0, stS])
      refine wpAnyP_ready (rs := [20]) (by kernel_rfl) (by simp) ?_
      refine (AllReadyP.cons (by simp only [opA, opS, op0]; exact rfl) (fun K hK => ?_) AllReadyP.nil)
      rw [if_pos (by kernel_rfl)]
      have HCR := Lib.hid (numbersG_any MB d prm left xn l3 w96 HM96.out HD.out (by have := HXN.out; omega))
      have HTN := Lib.hid (numsF_len d prm l3 xn)
      obtain ⟨ts, l4, hR⟩ : ∃ t r, numsF d prm xn l3 = (t, r) := ⟨_, _, rfl⟩
      have HFOT := Lib.hid (show ∀ t ∈ ts, t.formed = true by have := numsF_formed d prm l3 xn; rw [hR] at this; exact this)
      rw [hR] at HCR HTN
      clear hR
      dsimp only at HCR HTN
      go_simp
      refine HCR.out.mono ?_
      rintro e w97 ⟨c3, rfl, hr, hmk, hg⟩
      have HM97 := Lib.hid hmk
      have HG97 := Lib.hid (grow_trans HG96.out hg)
      have HN97 := Lib.hid ((hg.block NB (blk_ltD HN96.out) (fun e => by have := HLT.out; have := HNB.out; injection e with e; omega)).trans HN96.out)
      have HXT97 := Lib.hid (show RepS .i64 (fun b => NB < b ∧ b < TB) w97 3 t92.args (.slice ca92 t92.args.length cc92) from HXT96.out.mono2 (fun b off u hb hc => ⟨hb, cell_grown (show b ≠ MB from by have := HLT.out; have := HNB.out; have h9 := hb.1; omega) hg hc⟩) (Nat.le_refl _))
      have HRBW97 := Lib.hid ((hg.block RB (blk_ltD HRBW96.out) (fun e => by have := HLT.out; have := HNB.out; have := HRBN.out; injection e with e; omega)).trans HRBW96.out)
      have HFLT := Lib.hid hr.rep.flds
      obtain ⟨cs, hcl, hcr, hce⟩ := hr
      have HON97s := Lib.hid (Grow.slices (_ty := 0) hcl hce)
      have HCL := Lib.hid hcl
      have HTR97 := Lib.hid hcr
      have HTE97 := Lib.hid (each_mono (S' := fun b => NB < b ∧ b ≠ RB) (w' := w97) hce (fun b off u hb hc => ⟨⟨by have h9 := hb.1; have := blk_ltD HN96.out; omega, fun e => by have h9 := hb.1; have := blk_ltD HRBW96.out; omega⟩, hc⟩))
      have HK97 := Lib.hid (show (w97.cell? ⟨MB, 3, none⟩ = some (.int .i64 (on : Int)) ∧ w97.cell? ⟨MB, 4, none⟩ = some (.slice (some ⟨ab, ao, none⟩) an ac) ∧ w97.cell? ⟨ab, ao + on, none⟩ = some (.slice (some ⟨rb, ro, none⟩) rm rc) ∧ w97.cell? ⟨rb, ro + r2, none⟩ = some (.int .i64 (xn : Int)) ∧ w97.cell? ⟨TB, 0, none⟩ = some (.int .i64 t92.op) ∧ w97.cell? ⟨TB, 1, none⟩ = some (.string t92.name) ∧ w97.cell? ⟨TB, 2, none⟩ = some (.int .i64 t92.n) ∧ w97.cell? ⟨TB, 3, none⟩ = some (.slice ca92 t92.args.length cc92)) ∧ w97.cell? ⟨nb, r2, none⟩ = some (.string (nmB 104 r2)) from ⟨⟨(by have h := HM97.out.c34.1; rw [HON.out] at h; exact h), (by have h := HM97.out.c34.2; rw [HDA.out] at h; exact h), cell_grown (Nat.ne_of_lt HAB.out) hg HK96.out.1.2.2.1, cell_grown (Nat.ne_of_lt HRB.out) hg HK96.out.1.2.2.2.1, cell_grown (Nat.ne_of_gt HTBM.out) hg HK96.out.1.2.2.2.2.1, cell_grown (Nat.ne_of_gt HTBM.out) hg HK96.out.1.2.2.2.2.2.1, cell_grown (Nat.ne_of_gt HTBM.out) hg HK96.out.1.2.2.2.2.2.2.1, cell_grown (Nat.ne_of_gt HTBM.out) hg HK96.out.1.2.2.2.2.2.2.2⟩, cell_grown (Nat.ne_of_gt HNBE.out) hg HK96.out.2⟩)
      obtain ⟨ca3, cc3, hsh, _⟩ := owns_shape hcr
      subst hsh
      have HOS := HON97s
      obtain ⟨tn, HTNE⟩ : ∃ n, Hid (ts.length = n) := ⟨_, Lib.hid rfl⟩
      have HT2 := Lib.hid (show tn ≤ 2 from by have := HTN.out; have := HTNE.out; have := HXN.out; omega)
      rw [HTNE.out] at HTR97
      rw [HTNE.out]
      clear hcl hcr hce hmk hg HCR
      try go_wp2_with fail
      refine hK.out _ _ (fun _ => HK97.out) ?_
      clear hK K
      (try simp only [ptS, stA, st0, stS])
      refine wpAnyP_ready (rs := [21]) (by kernel_rfl) (by simp) ?_
      refine (AllReadyP.cons (by simp only [opA, opS, op0]; exact rfl) (fun K hK => ?_) AllReadyP.nil)
      refine step_append_trees (by rfl) _ _ (by rfl) (NB + 1) (.slice (some ⟨RB, 0, none⟩) 1 1) 1 [.int .i64 t92.op, .string t92.name, .int .i64 t92.n, .slice ca92 t92.args.length cc92] (by rfl) (owns_lit HRBW97.out HRBN.out.1 rfl (by decide)) w96.heap.size tn (.slice ca3 tn cc3) (flat .i64 ts cs) (by rfl) HTR97.out (flat_ones _ _ _ HOS.out) (by have := HT2.out; omega) (blk_ltD HN97.out) ?_
      intro v9 w98 hown hgrow
      have hg : w97.grownBy w98 (some RB) := hgrow
      have HM98 := Lib.hid (HM97.out.keep (fun z hz => hg.block z (by have := HM97.out.lt; omega) (fun e => by have := HRBN.out; have := HLT.out; have := HNB.out; injection e with e; omega)))
      have HG98 := Lib.hid (grow_own HG97.out hg (fun z e => by injection e with e; have := HRBN.out; have := HNB.out; omega))
      have HN98 := Lib.hid ((hg.block NB (blk_ltD HN97.out) (fun e => by have := HRBN.out; injection e with e; omega)).trans HN97.out)
      have HX98 := Lib.hid (show RepS .i64 (fun b => NB < b) w98 3 t92.args (.slice ca92 t92.args.length cc92) from HXT97.out.mono2 (fun b off u hb hc => ⟨hb.1, cell_grown (show b ≠ RB from by have := HRBN.out; have h9 := hb.2; omega) hg hc⟩) (Nat.le_refl _))
      have HE98 := Lib.hid (each_mono (S' := fun b => NB < b) (w' := w98) HTE97.out (fun b off u hb hc => ⟨hb.1, cell_grown (show b ≠ RB from hb.2) hg hc⟩))
      have HROW98 := Lib.hid (rep_of_owns (ts := t92 :: ts) (cs := (.slice ca92 t92.args.length cc92) :: cs) (S := fun b => NB < b) hown (by rw [List.length_cons, HTNE.out]; omega) (by rw [List.length_cons, List.length_cons, HCL.out]) (fun z hz => hz) (each_cons HFl92.out HX98.out HE98.out))
      have HK98 := Lib.hid (show (w98.cell? ⟨MB, 3, none⟩ = some (.int .i64 (on : Int)) ∧ w98.cell? ⟨MB, 4, none⟩ = some (.slice (some ⟨ab, ao, none⟩) an ac) ∧ w98.cell? ⟨ab, ao + on, none⟩ = some (.slice (some ⟨rb, ro, none⟩) rm rc) ∧ w98.cell? ⟨rb, ro + r2, none⟩ = some (.int .i64 (xn : Int)) ∧ w98.cell? ⟨TB, 0, none⟩ = some (.int .i64 t92.op) ∧ w98.cell? ⟨TB, 1, none⟩ = some (.string t92.name) ∧ w98.cell? ⟨TB, 2, none⟩ = some (.int .i64 t92.n) ∧ w98.cell? ⟨TB, 3, none⟩ = some (.slice ca92 t92.args.length cc92)) ∧ w98.cell? ⟨nb, r2, none⟩ = some (.string (nmB 104 r2)) from ⟨⟨cell_grown (show MB ≠ RB from by have := HLT.out; have := HRBN.out; have := HLT.out; have := HNB.out; omega) hg HK97.out.1.1, cell_grown (show MB ≠ RB from by have := HLT.out; have := HRBN.out; have := HLT.out; have := HNB.out; omega) hg HK97.out.1.2.1, cell_grown (show ab ≠ RB from by have := HAB.out; have := HRBN.out; have := HLT.out; have := HNB.out; omega) hg HK97.out.1.2.2.1, cell_grown (show rb ≠ RB from by have := HRB.out; have := HRBN.out; have := HLT.out; have := HNB.out; omega) hg HK97.out.1.2.2.2.1, cell_grown (show TB ≠ RB from by have := HRBN.out.2; have := HRBN.out; have := HLT.out; have := HNB.out; omega) hg HK97.out.1.2.2.2.2.1, cell_grown (show TB ≠ RB from by have := HRBN.out.2; have := HRBN.out; have := HLT.out; have := HNB.out; omega) hg HK97.out.1.2.2.2.2.2.1, cell_grown (show TB ≠ RB from by have := HRBN.out.2; have := HRBN.out; have := HLT.out; have := HNB.out; omega) hg HK97.out.1.2.2.2.2.2.2.1, cell_grown (show TB ≠ RB from by have := HRBN.out.2; have := HRBN.out; have := HLT.out; have := HNB.out; omega) hg HK97.out.1.2.2.2.2.2.2.2⟩, cell_grown HNR.out hg HK97.out.2⟩)
      obtain ⟨va, vc, rfl, _⟩ := owns_shape hown
      obtain ⟨vn, HVN⟩ : ∃ n, Hid (1 + tn = n) := ⟨_, Lib.hid rfl⟩
      rw [HVN.out] at HROW98
      rw [HVN.out]
      clear hown hgrow hg
      refine hK.out _ _ (fun _ => HK98.out) ?_
      clear hK K
      (try simp only [ptS, stA, st0, stS])
      refine tkS (i := 22) (v := ?_) (by simp only [opA, opS, op0]; exact rfl) (by kernel_rfl) (by kernel_rfl) HK98.out ?_ ?_
      rotate_left
      · intro w hS
        (try dsimp only at hS); first | (go_simp; done) | (go_simp; with_reducible rfl)
      (try simp only [ptS, stA, st0, stS])
      refine wpAnyP_ready (rs := [23]) (by kernel_rfl) (by simp) ?_
      refine (AllReadyP.cons (by simp only [opA, opS, op0]; exact rfl) (fun K hK => ?_) AllReadyP.nil)
      rw [if_pos (by kernel_rfl)]
      have n0' : w98.cell? ⟨NB, 0, none⟩ = some (.int .i64 0) := by simp [World.cell?, HN98.out]
      have f0' := thaw HN98.out 0
      have n1' : w98.cell? ⟨NB, 1, none⟩ = some (.string ⟨#[]⟩) := by simp [World.cell?, HN98.out]
      have f1' := thaw HN98.out 1
      have n2' : w98.cell? ⟨NB, 2, none⟩ = some (.string ⟨#[]⟩) := by simp [World.cell?, HN98.out]
      have f2' := thaw HN98.out 2
      have n3' : w98.cell? ⟨NB, 3, none⟩ = some (.slice none 0 0) := by simp [World.cell?, HN98.out]
      have f3' := thaw HN98.out 3
      have n4' : w98.cell? ⟨NB, 4, none⟩ = some (.slice none 0 0) := by simp [World.cell?, HN98.out]
      have f4' := thaw HN98.out 4
      have n5' : w98.cell? ⟨NB, 5, none⟩ = some (.slice none 0 0) := by simp [World.cell?, HN98.out]
      have f5' := thaw HN98.out 5
      have hbn := cell_lt n0'
      go_simp
      refine hK.out _ _ (gone (by kernel_rfl)) ?_
      clear hK K
      (try simp only [ptN])
      refine wpAnyP_done (by kernel_rfl) ?_ _
      go_wp2_with fail
      have HW := set6D HN98.out (.int .i64 7) (.string ⟨#[]⟩) (.string (nmB 104 r2)) (.slice va vn vc) (.slice none 0 0) (.slice none 0 0)
      refine bodyPost_ret (v := .agg #[.int .i64 7, .string ⟨#[]⟩, .string (nmB 104 r2), .slice va vn vc, .slice none 0 0, .slice none 0 0]) (results_cell_row Try.results141 _ _ NB 128 _ (0, 0) _ rfl HW Try.underlying128 rfl (by kernel_rfl)) rfl ?_
      exact ⟨[.int .i64 7, .string ⟨#[]⟩, .string (nmB 104 r2), .slice va vn vc, .slice none 0 0, .slice none 0 0], left, l4, rfl, (fin6 HNB.out HLT.out HG98.out HM98.out (repUp HROW98.out (by omega)) (cons_all (P := fun x => x.formed = true) HFO92.out HFOT.out) (cons_all HFl92.out HFLT.out) (by rw [List.length_cons, HTNE.out]; have h := HT2.out; omega)).1, (fin6 HNB.out HLT.out HG98.out HM98.out (repUp HROW98.out (by omega)) (cons_all (P := fun x => x.formed = true) HFO92.out HFOT.out) (cons_all HFl92.out HFLT.out) (by rw [List.length_cons, HTNE.out]; have h := HT2.out; omega)).2.1, HLL.out.1, Int.le_refl _, (fin6 HNB.out HLT.out HG98.out HM98.out (repUp HROW98.out (by omega)) (cons_all (P := fun x => x.formed = true) HFO92.out HFOT.out) (cons_all HFl92.out HFLT.out) (by rw [List.length_cons, HTNE.out]; have h := HT2.out; omega)).2.2⟩
    · rw [if_pos (by kernel_rfl)]
      have HCR := Lib.hid (numbersG_any MB d prm left xn l3 w95 HM95.out HD.out (by have := HXN.out; omega))
      have HTN := Lib.hid (numsF_len d prm l3 xn)
      obtain ⟨ts, l4, hR⟩ : ∃ t r, numsF d prm xn l3 = (t, r) := ⟨_, _, rfl⟩
      have HFOT := Lib.hid (show ∀ t ∈ ts, t.formed = true by have := numsF_formed d prm l3 xn; rw [hR] at this; exact this)
      rw [hR] at HCR HTN
      clear hR
      dsimp only at HCR HTN
      go_simp
      refine HCR.out.mono ?_
      rintro e w96 ⟨c3, rfl, hr, hmk, hg⟩
      have HM96 := Lib.hid hmk
      have HG96 := Lib.hid (grow_trans HG95.out hg)
      have HN96 := Lib.hid ((hg.block NB (blk_ltD HN95.out) (fun e => by have := HLT.out; have := HNB.out; injection e with e; omega)).trans HN95.out)
      have HXT96 := Lib.hid (show RepS .i64 (fun b => NB < b ∧ b < TB) w96 3 t92.args (.slice ca92 t92.args.length cc92) from HXT95.out.mono2 (fun b off u hb hc => ⟨hb, cell_grown (show b ≠ MB from by have := HLT.out; have := HNB.out; have h9 := hb.1; omega) hg hc⟩) (Nat.le_refl _))
      have HFLT := Lib.hid hr.rep.flds
      obtain ⟨cs, hcl, hcr, hce⟩ := hr
      have HON96s := Lib.hid (Grow.slices (_ty := 0) hcl hce)
      have HCL := Lib.hid hcl
      have HTR96 := Lib.hid hcr
      have HTE96 := Lib.hid (each_mono (S' := fun b => NB < b) (w' := w96) hce (fun b off u hb hc => ⟨by have h9 := hb.1; have := blk_ltD HN95.out; omega, hc⟩))
      have HK96 := Lib.hid (show (w96.cell? ⟨MB, 3, none⟩ = some (.int .i64 (on : Int)) ∧ w96.cell? ⟨MB, 4, none⟩ = some (.slice (some ⟨ab, ao, none⟩) an ac) ∧ w96.cell? ⟨ab, ao + on, none⟩ = some (.slice (some ⟨rb, ro, none⟩) rm rc) ∧ w96.cell? ⟨rb, ro + r2, none⟩ = some (.int .i64 (xn : Int)) ∧ w96.cell? ⟨TB, 0, none⟩ = some (.int .i64 t92.op) ∧ w96.cell? ⟨TB, 1, none⟩ = some (.string t92.name) ∧ w96.cell? ⟨TB, 2, none⟩ = some (.int .i64 t92.n) ∧ w96.cell? ⟨TB, 3, none⟩ = some (.slice ca92 t92.args.length cc92)) ∧ w96.cell? ⟨nb, r2, none⟩ = some (.string (nmB 104 r2)) from ⟨⟨(by have h := HM96.out.c34.1; rw [HON.out] at h; exact h), (by have h := HM96.out.c34.2; rw [HDA.out] at h; exact h), cell_grown (Nat.ne_of_lt HAB.out) hg HK95.out.1.2.2.1, cell_grown (Nat.ne_of_lt HRB.out) hg HK95.out.1.2.2.2.1, cell_grown (Nat.ne_of_gt HTBM.out) hg HK95.out.1.2.2.2.2.1, cell_grown (Nat.ne_of_gt HTBM.out) hg HK95.out.1.2.2.2.2.2.1, cell_grown (Nat.ne_of_gt HTBM.out) hg HK95.out.1.2.2.2.2.2.2.1, cell_grown (Nat.ne_of_gt HTBM.out) hg HK95.out.1.2.2.2.2.2.2.2⟩, cell_grown (Nat.ne_of_gt HNBE.out) hg HK95.out.2⟩)
      obtain ⟨ca3, cc3, hsh, _⟩ := owns_shape hcr
      subst hsh
      have HOS := HON96s
      obtain ⟨tn, HTNE⟩ : ∃ n, Hid (ts.length = n) := ⟨_, Lib.hid rfl⟩
      have HT2 := Lib.hid (show tn ≤ 2 from by have := HTN.out; have := HTNE.out; have := HXN.out; omega)
      rw [HTNE.out] at HTR96
      rw [HTNE.out]
      clear hcl hcr hce hmk hg HCR
      try go_wp2_with fail
      refine hK.out _ _ (fun _ => HK96.out) ?_
      clear hK K
      (try simp only [ptS, stA, st0, stS])
      refine wpAnyP_ready (rs := [5]) (by kernel_rfl) (by simp) ?_
      refine (AllReadyP.cons (by simp only [opA, opS, op0]; exact rfl) (fun K hK => ?_) AllReadyP.nil)
      rw [if_pos (by kernel_rfl)]
      have HY97 := Lib.hid (more_allocD w96 (.cells #[.int .i64 t92.op, .string t92.name, .int .i64 t92.n, .slice ca92 t92.args.length cc92] 36))
      have HRBW97 := Lib.hid (alloc_last w96 (.cells #[.int .i64 t92.op, .string t92.name, .int .i64 t92.n, .slice ca92 t92.args.length cc92] 36))
      obtain ⟨RB, HRE⟩ : ∃ B, Hid (B = w96.heap.size) := ⟨_, Lib.hid rfl⟩
      go_simp
      rw [← HRE.out] at HRBW97
      try rw [← HRE.out]
      generalize w96.alloc (.cells #[.int .i64 t92.op, .string t92.name, .int .i64 t92.n, .slice ca92 t92.args.length cc92] 36) = w97 at *
      have HRBN := Lib.hid (show NB < RB ∧ TB < RB from by have h1 := blk_ltD HN96.out; have h2 := cell_lt HK96.out.1.2.2.2.2.1; have := HRE.out; omega)
      have HNR := Lib.hid (show nb ≠ RB from fun e => by have h1 := cell_lt HK96.out.2; have := HRE.out; omega)
      have HTE960 := HTE96
      clear HTE96
      have HTE96 := Lib.hid (each_mono (S' := fun b => NB < b ∧ b ≠ RB) (w' := w96) HTE960.out (fun b off u hb hc => ⟨⟨hb, fun e => by have h1 := World.block_lt_of_cell? w96 ⟨b, off, none⟩ hc; dsimp only at h1; have := HRE.out; omega⟩, hc⟩))
      have HG97 := Lib.hid (grow_trans HG96.out (grow_more HY97.out))
      have HN97 := Lib.hid ((HY97.out.block (blk_ltD HN96.out)).trans HN96.out)
      have HM97 := Lib.hid (HM96.out.more HY97.out)
      have HXT97 := Lib.hid (show RepS .i64 (fun b => NB < b ∧ b < TB) w97 3 t92.args (.slice ca92 t92.args.length cc92) from HXT96.out.mono2 (fun b off u hb hc => ⟨hb, HY97.out.cell hc⟩) (Nat.le_refl _))
      have HTE97 := Lib.hid (each_mono (S' := fun b => NB < b ∧ b ≠ RB) (w' := w97) HTE96.out (fun b off u hb hc => ⟨hb, HY97.out.cell hc⟩))
      have HTR97 := Lib.hid (owns_keep HTR96.out (fun z hz => HY97.out.block (HTR96.out.lt z hz).2))
      have HK97 := Lib.hid (show (w97.cell? ⟨MB, 3, none⟩ = some (.int .i64 (on : Int)) ∧ w97.cell? ⟨MB, 4, none⟩ = some (.slice (some ⟨ab, ao, none⟩) an ac) ∧ w97.cell? ⟨ab, ao + on, none⟩ = some (.slice (some ⟨rb, ro, none⟩) rm rc) ∧ w97.cell? ⟨rb, ro + r2, none⟩ = some (.int .i64 (xn : Int)) ∧ w97.cell? ⟨TB, 0, none⟩ = some (.int .i64 t92.op) ∧ w97.cell? ⟨TB, 1, none⟩ = some (.string t92.name) ∧ w97.cell? ⟨TB, 2, none⟩ = some (.int .i64 t92.n) ∧ w97.cell? ⟨TB, 3, none⟩ = some (.slice ca92 t92.args.length cc92)) ∧ w97.cell? ⟨nb, r2, none⟩ = some (.string (nmB 104 r2)) from ⟨⟨HY97.out.cell HK96.out.1.1, HY97.out.cell HK96.out.1.2.1, HY97.out.cell HK96.out.1.2.2.1, HY97.out.cell HK96.out.1.2.2.2.1, HY97.out.cell HK96.out.1.2.2.2.2.1, HY97.out.cell HK96.out.1.2.2.2.2.2.1, HY97.out.cell HK96.out.1.2.2.2.2.2.2.1, HY97.out.cell HK96.out.1.2.2.2.2.2.2.2⟩, HY97.out.cell HK96.out.2⟩)
      refine hK.out _ _ (fun _ => HK97.out) ?_
      clear hK K
      (try simp only [ptS, stA, st0, stS])
      refine wpAnyP_ready (rs := [21]) (by kernel_rfl) (by simp) ?_
      refine (AllReadyP.cons (by simp only [opA, opS, op0]; exact rfl) (fun K hK => ?_) AllReadyP.nil)
      refine step_append_trees (by rfl) _ _ (by rfl) (NB + 1) (.slice (some ⟨RB, 0, none⟩) 1 1) 1 [.int .i64 t92.op, .string t92.name, .int .i64 t92.n, .slice ca92 t92.args.length cc92] (by rfl) (owns_lit HRBW97.out HRBN.out.1 rfl (by decide)) w95.heap.size tn (.slice ca3 tn cc3) (flat .i64 ts cs) (by rfl) HTR97.out (flat_ones _ _ _ HOS.out) (by have := HT2.out; omega) (blk_ltD HN97.out) ?_
      intro v9 w98 hown hgrow
      have hg : w97.grownBy w98 (some RB) := hgrow
      have HM98 := Lib.hid (HM97.out.keep (fun z hz => hg.block z (by have := HM97.out.lt; omega) (fun e => by have := HRBN.out; have := HLT.out; have := HNB.out; injection e with e; omega)))
      have HG98 := Lib.hid (grow_own HG97.out hg (fun z e => by injection e with e; have := HRBN.out; have := HNB.out; omega))
      have HN98 := Lib.hid ((hg.block NB (blk_ltD HN97.out) (fun e => by have := HRBN.out; injection e with e; omega)).trans HN97.out)
      have HX98 := Lib.hid (show RepS .i64 (fun b => NB < b) w98 3 t92.args (.slice ca92 t92.args.length cc92) from HXT97.out.mono2 (fun b off u hb hc => ⟨hb.1, cell_grown (show b ≠ RB from by have := HRBN.out; have h9 := hb.2; omega) hg hc⟩) (Nat.le_refl _))
      have HE98 := Lib.hid (each_mono (S' := fun b => NB < b) (w' := w98) HTE97.out (fun b off u hb hc => ⟨hb.1, cell_grown (show b ≠ RB from hb.2) hg hc⟩))
      have HROW98 := Lib.hid (rep_of_owns (ts := t92 :: ts) (cs := (.slice ca92 t92.args.length cc92) :: cs) (S := fun b => NB < b) hown (by rw [List.length_cons, HTNE.out]; omega) (by rw [List.length_cons, List.length_cons, HCL.out]) (fun z hz => hz) (each_cons HFl92.out HX98.out HE98.out))
      have HK98 := Lib.hid (show (w98.cell? ⟨MB, 3, none⟩ = some (.int .i64 (on : Int)) ∧ w98.cell? ⟨MB, 4, none⟩ = some (.slice (some ⟨ab, ao, none⟩) an ac) ∧ w98.cell? ⟨ab, ao + on, none⟩ = some (.slice (some ⟨rb, ro, none⟩) rm rc) ∧ w98.cell? ⟨rb, ro + r2, none⟩ = some (.int .i64 (xn : Int)) ∧ w98.cell? ⟨TB, 0, none⟩ = some (.int .i64 t92.op) ∧ w98.cell? ⟨TB, 1, none⟩ = some (.string t92.name) ∧ w98.cell? ⟨TB, 2, none⟩ = some (.int .i64 t92.n) ∧ w98.cell? ⟨TB, 3, none⟩ = some (.slice ca92 t92.args.length cc92)) ∧ w98.cell? ⟨nb, r2, none⟩ = some (.string (nmB 104 r2)) from ⟨⟨cell_grown (show MB ≠ RB from by have := HLT.out; have := HRBN.out; have := HLT.out; have := HNB.out; omega) hg HK97.out.1.1, cell_grown (show MB ≠ RB from by have := HLT.out; have := HRBN.out; have := HLT.out; have := HNB.out; omega) hg HK97.out.1.2.1, cell_grown (show ab ≠ RB from by have := HAB.out; have := HRBN.out; have := HLT.out; have := HNB.out; omega) hg HK97.out.1.2.2.1, cell_grown (show rb ≠ RB from by have := HRB.out; have := HRBN.out; have := HLT.out; have := HNB.out; omega) hg HK97.out.1.2.2.2.1, cell_grown (show TB ≠ RB from by have := HRBN.out.2; have := HRBN.out; have := HLT.out; have := HNB.out; omega) hg HK97.out.1.2.2.2.2.1, cell_grown (show TB ≠ RB from by have := HRBN.out.2; have := HRBN.out; have := HLT.out; have := HNB.out; omega) hg HK97.out.1.2.2.2.2.2.1, cell_grown (show TB ≠ RB from by have := HRBN.out.2; have := HRBN.out; have := HLT.out; have := HNB.out; omega) hg HK97.out.1.2.2.2.2.2.2.1, cell_grown (show TB ≠ RB from by have := HRBN.out.2; have := HRBN.out; have := HLT.out; have := HNB.out; omega) hg HK97.out.1.2.2.2.2.2.2.2⟩, cell_grown HNR.out hg HK97.out.2⟩)
      obtain ⟨va, vc, rfl, _⟩ := owns_shape hown
      obtain ⟨vn, HVN⟩ : ∃ n, Hid (1 + tn = n) := ⟨_, Lib.hid rfl⟩
      rw [HVN.out] at HROW98
      rw [HVN.out]
      clear hown hgrow hg
      refine hK.out _ _ (fun _ => HK98.out) ?_
      clear hK K
      (try simp only [ptS, stA, st0, stS])
      refine tkS (i := 22) (v := ?_) (by simp only [opA, opS, op0]; exact rfl) (by kernel_rfl) (by kernel_rfl) HK98.out ?_ ?_
      rotate_left
      · intro w hS
        (try dsimp only at hS); first | (go_simp; done) | (go_simp; with_reducible rfl)
      (try simp only [ptS, stA, st0, stS])
      refine wpAnyP_ready (rs := [23]) (by kernel_rfl) (by simp) ?_
      refine (AllReadyP.cons (by simp only [opA, opS, op0]; exact rfl) (fun K hK => ?_) AllReadyP.nil)
      rw [if_pos (by kernel_rfl)]
      have n0' : w98.cell? ⟨NB, 0, none⟩ = some (.int .i64 0) := by simp [World.cell?, HN98.out]
      have f0' := thaw HN98.out 0
      have n1' : w98.cell? ⟨NB, 1, none⟩ = some (.string ⟨#[]⟩) := by simp [World.cell?, HN98.out]
      have f1' := thaw HN98.out 1
      have n2' : w98.cell? ⟨NB, 2, none⟩ = some (.string ⟨#[]⟩) := by simp [World.cell?, HN98.out]
      have f2' := thaw HN98.out 2
      have n3' : w98.cell? ⟨NB, 3, none⟩ = some (.slice none 0 0) := by simp [World.cell?, HN98.out]
      have f3' := thaw HN98.out 3
      have n4' : w98.cell? ⟨NB, 4, none⟩ = some (.slice none 0 0) := by simp [World.cell?, HN98.out]
      have f4' := thaw HN98.out 4
      have n5' : w98.cell? ⟨NB, 5, none⟩ = some (.slice none 0 0) := by simp [World.cell?, HN98.out]
      have f5' := thaw HN98.out 5
      have hbn := cell_lt n0'
      go_simp
      refine hK.out _ _ (gone (by kernel_rfl)) ?_
      clear hK K
      (try simp only [ptN])
      refine wpAnyP_done (by kernel_rfl) ?_ _
      go_wp2_with fail
      have HW := set6D HN98.out (.int .i64 7) (.string ⟨#[]⟩) (.string (nmB 104 r2)) (.slice va vn vc) (.slice none 0 0) (.slice none 0 0)
      refine bodyPost_ret (v := .agg #[.int .i64 7, .string ⟨#[]⟩, .string (nmB 104 r2), .slice va vn vc, .slice none 0 0, .slice none 0 0]) (results_cell_row Try.results141 _ _ NB 128 _ (0, 0) _ rfl HW Try.underlying128 rfl (by kernel_rfl)) rfl ?_
      exact ⟨[.int .i64 7, .string ⟨#[]⟩, .string (nmB 104 r2), .slice va vn vc, .slice none 0 0, .slice none 0 0], left, l4, rfl, (fin6 HNB.out HLT.out HG98.out HM98.out (repUp HROW98.out (by omega)) (cons_all (P := fun x => x.formed = true) HFO92.out HFOT.out) (cons_all HFl92.out HFLT.out) (by rw [List.length_cons, HTNE.out]; have h := HT2.out; omega)).1, (fin6 HNB.out HLT.out HG98.out HM98.out (repUp HROW98.out (by omega)) (cons_all (P := fun x => x.formed = true) HFO92.out HFOT.out) (cons_all HFl92.out HFLT.out) (by rw [List.length_cons, HTNE.out]; have h := HT2.out; omega)).2.1, HLL.out.1, Int.le_refl _, (fin6 HNB.out HLT.out HG98.out HM98.out (repUp HROW98.out (by omega)) (cons_all (P := fun x => x.formed = true) HFO92.out HFOT.out) (cons_all HFl92.out HFLT.out) (by rw [List.length_cons, HTNE.out]; have h := HT2.out; omega)).2.2⟩
  · rw [if_pos (by kernel_rfl)]
    have HY95 := Lib.hid (more_allocD w94 (.cells #[.int .i64 t92.op, .string t92.name, .int .i64 t92.n, .slice ca92 t92.args.length cc92] 36))
    have HRBW95 := Lib.hid (alloc_last w94 (.cells #[.int .i64 t92.op, .string t92.name, .int .i64 t92.n, .slice ca92 t92.args.length cc92] 36))
    obtain ⟨RB, HRE⟩ : ∃ B, Hid (B = w94.heap.size) := ⟨_, Lib.hid rfl⟩
    go_simp
    rw [← HRE.out] at HRBW95
    try rw [← HRE.out]
    generalize w94.alloc (.cells #[.int .i64 t92.op, .string t92.name, .int .i64 t92.n, .slice ca92 t92.args.length cc92] 36) = w95 at *
    have HRBN := Lib.hid (show NB < RB ∧ TB < RB from by have h1 := blk_ltD HN94.out; have h2 := cell_lt HK94.out.2.2.2.2.1; have := HRE.out; omega)
    have HG95 := Lib.hid (grow_trans HG94.out (grow_more HY95.out))
    have HN95 := Lib.hid ((HY95.out.block (blk_ltD HN94.out)).trans HN94.out)
    have HM95 := Lib.hid (HM94.out.more HY95.out)
    have HXT95 := Lib.hid (show RepS .i64 (fun b => NB < b ∧ b < TB) w95 3 t92.args (.slice ca92 t92.args.length cc92) from HXT94.out.mono2 (fun b off u hb hc => ⟨hb, HY95.out.cell hc⟩) (Nat.le_refl _))
    have HK95 := Lib.hid (show w95.cell? ⟨MB, 3, none⟩ = some (.int .i64 (on : Int)) ∧ w95.cell? ⟨MB, 4, none⟩ = some (.slice (some ⟨ab, ao, none⟩) an ac) ∧ w95.cell? ⟨ab, ao + on, none⟩ = some (.slice (some ⟨rb, ro, none⟩) rm rc) ∧ w95.cell? ⟨rb, ro + r2, none⟩ = some (.int .i64 (xn : Int)) ∧ w95.cell? ⟨TB, 0, none⟩ = some (.int .i64 t92.op) ∧ w95.cell? ⟨TB, 1, none⟩ = some (.string t92.name) ∧ w95.cell? ⟨TB, 2, none⟩ = some (.int .i64 t92.n) ∧ w95.cell? ⟨TB, 3, none⟩ = some (.slice ca92 t92.args.length cc92) from ⟨HY95.out.cell HK94.out.1, HY95.out.cell HK94.out.2.1, HY95.out.cell HK94.out.2.2.1, HY95.out.cell HK94.out.2.2.2.1, HY95.out.cell HK94.out.2.2.2.2.1, HY95.out.cell HK94.out.2.2.2.2.2.1, HY95.out.cell HK94.out.2.2.2.2.2.2.1, HY95.out.cell HK94.out.2.2.2.2.2.2.2⟩)
    refine hK.out _ _ (fun _ => HK95.out) ?_
    clear hK K
    (try simp only [ptS, stA, st0, stS])
    refine wpAnyP_ready (rs := [0]) (by kernel_rfl) (by simp) ?_
    refine (AllReadyP.cons (by simp only [opA, op0]; exact rfl) (fun K hK => ?_) AllReadyP.nil)
    rw [if_pos (by kernel_rfl)]
    have HC := Lib.hid (names_any 104 3 104 3 w95 rfl rfl (by omega) (by omega))
    go_simp
    refine HC.out.mono ?_
    rintro e w96 ⟨⟨nv, rfl, ho⟩, hm⟩
    have HX96 := Lib.hid hm
    obtain ⟨nb, nc, rfl, hnb, hnx⟩ := name_cell ho (r := r2) (by have := HR4.out; omega)
    have HNGE := Lib.hid hnb
    have HNBE := Lib.hid (show MB < nb from by have := blk_ltD HN95.out; have := HLT.out; have := HNB.out; omega)
    have HNC96 := Lib.hid hnx
    clear ho hm HC hnb hnx
    have HG96 := Lib.hid (grow_trans HG95.out (grow_more HX96.out))
    have HN96 := Lib.hid ((HX96.out.block (blk_ltD HN95.out)).trans HN95.out)
    have HM96 := Lib.hid (HM95.out.more HX96.out)
    have HXT96 := Lib.hid (show RepS .i64 (fun b => NB < b ∧ b < TB) w96 3 t92.args (.slice ca92 t92.args.length cc92) from HXT95.out.mono2 (fun b off u hb hc => ⟨hb, HX96.out.cell hc⟩) (Nat.le_refl _))
    have HRBW96 := Lib.hid ((HX96.out.block (blk_ltD HRBW95.out)).trans HRBW95.out)
    have HNR := Lib.hid (show nb ≠ RB from fun e => by have h1 := blk_ltD HRBW95.out; have h2 := HNGE.out; omega)
    have HK96 := Lib.hid (show (w96.cell? ⟨MB, 3, none⟩ = some (.int .i64 (on : Int)) ∧ w96.cell? ⟨MB, 4, none⟩ = some (.slice (some ⟨ab, ao, none⟩) an ac) ∧ w96.cell? ⟨ab, ao + on, none⟩ = some (.slice (some ⟨rb, ro, none⟩) rm rc) ∧ w96.cell? ⟨rb, ro + r2, none⟩ = some (.int .i64 (xn : Int)) ∧ w96.cell? ⟨TB, 0, none⟩ = some (.int .i64 t92.op) ∧ w96.cell? ⟨TB, 1, none⟩ = some (.string t92.name) ∧ w96.cell? ⟨TB, 2, none⟩ = some (.int .i64 t92.n) ∧ w96.cell? ⟨TB, 3, none⟩ = some (.slice ca92 t92.args.length cc92)) ∧ w96.cell? ⟨nb, r2, none⟩ = some (.string (nmB 104 r2)) from ⟨⟨HX96.out.cell HK95.out.1, HX96.out.cell HK95.out.2.1, HX96.out.cell HK95.out.2.2.1, HX96.out.cell HK95.out.2.2.2.1, HX96.out.cell HK95.out.2.2.2.2.1, HX96.out.cell HK95.out.2.2.2.2.2.1, HX96.out.cell HK95.out.2.2.2.2.2.2.1, HX96.out.cell HK95.out.2.2.2.2.2.2.2⟩, HNC96.out⟩)
    have hs5 := cell_lt HK96.out.2
    try go_wp2_with fail
    refine hK.out _ _ (fun _ => HK96.out.1) ?_
    clear hK K
    (try simp only [ptS, stA, st0, stS])
    refine wpAnyP_str (S' := fun W => (W.cell? ⟨MB, 3, none⟩ = some (.int .i64 (on : Int)) ∧ W.cell? ⟨MB, 4, none⟩ = some (.slice (some ⟨ab, ao, none⟩) an ac) ∧ W.cell? ⟨ab, ao + on, none⟩ = some (.slice (some ⟨rb, ro, none⟩) rm rc) ∧ W.cell? ⟨rb, ro + r2, none⟩ = some (.int .i64 (xn : Int)) ∧ W.cell? ⟨TB, 0, none⟩ = some (.int .i64 t92.op) ∧ W.cell? ⟨TB, 1, none⟩ = some (.string t92.name) ∧ W.cell? ⟨TB, 2, none⟩ = some (.int .i64 t92.n) ∧ W.cell? ⟨TB, 3, none⟩ = some (.slice ca92 t92.args.length cc92)) ∧ W.cell? ⟨nb, r2, none⟩ = some (.string (nmB 104 r2))) (fun _ h => h.1) ?_
    refine tkS (i := 2) (v := ?_) (by simp only [opA, opS, op0]; exact rfl) (by kernel_rfl) (by kernel_rfl) HK96.out ?_ ?_
    rotate_left
    · intro w hS
      (try dsimp only at hS); first | (go_simp; done) | (go_simp; with_reducible rfl)
    (try simp only [ptS, stA, st0, stS])
    refine tkS (i := 3) (v := ?_) (by simp only [opA, opS, op0]; exact rfl) (by kernel_rfl) (by kernel_rfl) HK96.out ?_ ?_
    rotate_left
    · intro w hS
      (try dsimp only at hS); first | (go_simp; done) | (go_simp; with_reducible rfl)
    (try simp only [ptS, stA, st0, stS])
    refine wpAnyP_ready (rs := [20]) (by kernel_rfl) (by simp) ?_
    refine (AllReadyP.cons (by simp only [opA, opS, op0]; exact rfl) (fun K hK => ?_) AllReadyP.nil)
    rw [if_pos (by kernel_rfl)]
    have HCR := Lib.hid (numbersG_any MB d prm left xn l3 w96 HM96.out HD.out (by have := HXN.out; omega))
    have HTN := Lib.hid (numsF_len d prm l3 xn)
    obtain ⟨ts, l4, hR⟩ : ∃ t r, numsF d prm xn l3 = (t, r) := ⟨_, _, rfl⟩
    have HFOT := Lib.hid (show ∀ t ∈ ts, t.formed = true by have := numsF_formed d prm l3 xn; rw [hR] at this; exact this)
    rw [hR] at HCR HTN
    clear hR
    dsimp only at HCR HTN
    go_simp
    refine HCR.out.mono ?_
    rintro e w97 ⟨c3, rfl, hr, hmk, hg⟩
    have HM97 := Lib.hid hmk
    have HG97 := Lib.hid (grow_trans HG96.out hg)
    have HN97 := Lib.hid ((hg.block NB (blk_ltD HN96.out) (fun e => by have := HLT.out; have := HNB.out; injection e with e; omega)).trans HN96.out)
    have HXT97 := Lib.hid (show RepS .i64 (fun b => NB < b ∧ b < TB) w97 3 t92.args (.slice ca92 t92.args.length cc92) from HXT96.out.mono2 (fun b off u hb hc => ⟨hb, cell_grown (show b ≠ MB from by have := HLT.out; have := HNB.out; have h9 := hb.1; omega) hg hc⟩) (Nat.le_refl _))
    have HRBW97 := Lib.hid ((hg.block RB (blk_ltD HRBW96.out) (fun e => by have := HLT.out; have := HNB.out; have := HRBN.out; injection e with e; omega)).trans HRBW96.out)
    have HFLT := Lib.hid hr.rep.flds
    obtain ⟨cs, hcl, hcr, hce⟩ := hr
    have HON97s := Lib.hid (Grow.slices (_ty := 0) hcl hce)
    have HCL := Lib.hid hcl
    have HTR97 := Lib.hid hcr
    have HTE97 := Lib.hid (each_mono (S' := fun b => NB < b ∧ b ≠ RB) (w' := w97) hce (fun b off u hb hc => ⟨⟨by have h9 := hb.1; have := blk_ltD HN96.out; omega, fun e => by have h9 := hb.1; have := blk_ltD HRBW96.out; omega⟩, hc⟩))
    have HK97 := Lib.hid (show (w97.cell? ⟨MB, 3, none⟩ = some (.int .i64 (on : Int)) ∧ w97.cell? ⟨MB, 4, none⟩ = some (.slice (some ⟨ab, ao, none⟩) an ac) ∧ w97.cell? ⟨ab, ao + on, none⟩ = some (.slice (some ⟨rb, ro, none⟩) rm rc) ∧ w97.cell? ⟨rb, ro + r2, none⟩ = some (.int .i64 (xn : Int)) ∧ w97.cell? ⟨TB, 0, none⟩ = some (.int .i64 t92.op) ∧ w97.cell? ⟨TB, 1, none⟩ = some (.string t92.name) ∧ w97.cell? ⟨TB, 2, none⟩ = some (.int .i64 t92.n) ∧ w97.cell? ⟨TB, 3, none⟩ = some (.slice ca92 t92.args.length cc92)) ∧ w97.cell? ⟨nb, r2, none⟩ = some (.string (nmB 104 r2)) from ⟨⟨(by have h := HM97.out.c34.1; rw [HON.out] at h; exact h), (by have h := HM97.out.c34.2; rw [HDA.out] at h; exact h), cell_grown (Nat.ne_of_lt HAB.out) hg HK96.out.1.2.2.1, cell_grown (Nat.ne_of_lt HRB.out) hg HK96.out.1.2.2.2.1, cell_grown (Nat.ne_of_gt HTBM.out) hg HK96.out.1.2.2.2.2.1, cell_grown (Nat.ne_of_gt HTBM.out) hg HK96.out.1.2.2.2.2.2.1, cell_grown (Nat.ne_of_gt HTBM.out) hg HK96.out.1.2.2.2.2.2.2.1, cell_grown (Nat.ne_of_gt HTBM.out) hg HK96.out.1.2.2.2.2.2.2.2⟩, cell_grown (Nat.ne_of_gt HNBE.out) hg HK96.out.2⟩)
    obtain ⟨ca3, cc3, hsh, _⟩ := owns_shape hcr
    subst hsh
    have HOS := HON97s
    obtain ⟨tn, HTNE⟩ : ∃ n, Hid (ts.length = n) := ⟨_, Lib.hid rfl⟩
    have HT2 := Lib.hid (show tn ≤ 2 from by have := HTN.out; have := HTNE.out; have := HXN.out; omega)
    rw [HTNE.out] at HTR97
    rw [HTNE.out]
    clear hcl hcr hce hmk hg HCR
    try go_wp2_with fail
    refine hK.out _ _ (fun _ => HK97.out) ?_
    clear hK K
    (try simp only [ptS, stA, st0, stS])
    refine wpAnyP_ready (rs := [21]) (by kernel_rfl) (by simp) ?_
    refine (AllReadyP.cons (by simp only [opA, opS, op0]; exact rfl) (fun K hK => ?_) AllReadyP.nil)
    refine step_append_trees (by rfl) _ _ (by rfl) (NB + 1) (.slice (some ⟨RB, 0, none⟩) 1 1) 1 [.int .i64 t92.op, .string t92.name, .int .i64 t92.n, .slice ca92 t92.args.length cc92] (by rfl) (owns_lit HRBW97.out HRBN.out.1 rfl (by decide)) w96.heap.size tn (.slice ca3 tn cc3) (flat .i64 ts cs) (by rfl) HTR97.out (flat_ones _ _ _ HOS.out) (by have := HT2.out; omega) (blk_ltD HN97.out) ?_
    intro v9 w98 hown hgrow
    have hg : w97.grownBy w98 (some RB) := hgrow
    have HM98 := Lib.hid (HM97.out.keep (fun z hz => hg.block z (by have := HM97.out.lt; omega) (fun e => by have := HRBN.out; have := HLT.out; have := HNB.out; injection e with e; omega)))
    have HG98 := Lib.hid (grow_own HG97.out hg (fun z e => by injection e with e; have := HRBN.out; have := HNB.out; omega))
    have HN98 := Lib.hid ((hg.block NB (blk_ltD HN97.out) (fun e => by have := HRBN.out; injection e with e; omega)).trans HN97.out)
    have HX98 := Lib.hid (show RepS .i64 (fun b => NB < b) w98 3 t92.args (.slice ca92 t92.args.length cc92) from HXT97.out.mono2 (fun b off u hb hc => ⟨hb.1, cell_grown (show b ≠ RB from by have := HRBN.out; have h9 := hb.2; omega) hg hc⟩) (Nat.le_refl _))
    have HE98 := Lib.hid (each_mono (S' := fun b => NB < b) (w' := w98) HTE97.out (fun b off u hb hc => ⟨hb.1, cell_grown (show b ≠ RB from hb.2) hg hc⟩))
    have HROW98 := Lib.hid (rep_of_owns (ts := t92 :: ts) (cs := (.slice ca92 t92.args.length cc92) :: cs) (S := fun b => NB < b) hown (by rw [List.length_cons, HTNE.out]; omega) (by rw [List.length_cons, List.length_cons, HCL.out]) (fun z hz => hz) (each_cons HFl92.out HX98.out HE98.out))
    have HK98 := Lib.hid (show (w98.cell? ⟨MB, 3, none⟩ = some (.int .i64 (on : Int)) ∧ w98.cell? ⟨MB, 4, none⟩ = some (.slice (some ⟨ab, ao, none⟩) an ac) ∧ w98.cell? ⟨ab, ao + on, none⟩ = some (.slice (some ⟨rb, ro, none⟩) rm rc) ∧ w98.cell? ⟨rb, ro + r2, none⟩ = some (.int .i64 (xn : Int)) ∧ w98.cell? ⟨TB, 0, none⟩ = some (.int .i64 t92.op) ∧ w98.cell? ⟨TB, 1, none⟩ = some (.string t92.name) ∧ w98.cell? ⟨TB, 2, none⟩ = some (.int .i64 t92.n) ∧ w98.cell? ⟨TB, 3, none⟩ = some (.slice ca92 t92.args.length cc92)) ∧ w98.cell? ⟨nb, r2, none⟩ = some (.string (nmB 104 r2)) from ⟨⟨cell_grown (show MB ≠ RB from by have := HLT.out; have := HRBN.out; have := HLT.out; have := HNB.out; omega) hg HK97.out.1.1, cell_grown (show MB ≠ RB from by have := HLT.out; have := HRBN.out; have := HLT.out; have := HNB.out; omega) hg HK97.out.1.2.1, cell_grown (show ab ≠ RB from by have := HAB.out; have := HRBN.out; have := HLT.out; have := HNB.out; omega) hg HK97.out.1.2.2.1, cell_grown (show rb ≠ RB from by have := HRB.out; have := HRBN.out; have := HLT.out; have := HNB.out; omega) hg HK97.out.1.2.2.2.1, cell_grown (show TB ≠ RB from by have := HRBN.out.2; have := HRBN.out; have := HLT.out; have := HNB.out; omega) hg HK97.out.1.2.2.2.2.1, cell_grown (show TB ≠ RB from by have := HRBN.out.2; have := HRBN.out; have := HLT.out; have := HNB.out; omega) hg HK97.out.1.2.2.2.2.2.1, cell_grown (show TB ≠ RB from by have := HRBN.out.2; have := HRBN.out; have := HLT.out; have := HNB.out; omega) hg HK97.out.1.2.2.2.2.2.2.1, cell_grown (show TB ≠ RB from by have := HRBN.out.2; have := HRBN.out; have := HLT.out; have := HNB.out; omega) hg HK97.out.1.2.2.2.2.2.2.2⟩, cell_grown HNR.out hg HK97.out.2⟩)
    obtain ⟨va, vc, rfl, _⟩ := owns_shape hown
    obtain ⟨vn, HVN⟩ : ∃ n, Hid (1 + tn = n) := ⟨_, Lib.hid rfl⟩
    rw [HVN.out] at HROW98
    rw [HVN.out]
    clear hown hgrow hg
    refine hK.out _ _ (fun _ => HK98.out) ?_
    clear hK K
    (try simp only [ptS, stA, st0, stS])
    refine tkS (i := 22) (v := ?_) (by simp only [opA, opS, op0]; exact rfl) (by kernel_rfl) (by kernel_rfl) HK98.out ?_ ?_
    rotate_left
    · intro w hS
      (try dsimp only at hS); first | (go_simp; done) | (go_simp; with_reducible rfl)
    (try simp only [ptS, stA, st0, stS])
    refine wpAnyP_ready (rs := [23]) (by kernel_rfl) (by simp) ?_
    refine (AllReadyP.cons (by simp only [opA, opS, op0]; exact rfl) (fun K hK => ?_) AllReadyP.nil)
    rw [if_pos (by kernel_rfl)]
    have n0' : w98.cell? ⟨NB, 0, none⟩ = some (.int .i64 0) := by simp [World.cell?, HN98.out]
    have f0' := thaw HN98.out 0
    have n1' : w98.cell? ⟨NB, 1, none⟩ = some (.string ⟨#[]⟩) := by simp [World.cell?, HN98.out]
    have f1' := thaw HN98.out 1
    have n2' : w98.cell? ⟨NB, 2, none⟩ = some (.string ⟨#[]⟩) := by simp [World.cell?, HN98.out]
    have f2' := thaw HN98.out 2
    have n3' : w98.cell? ⟨NB, 3, none⟩ = some (.slice none 0 0) := by simp [World.cell?, HN98.out]
    have f3' := thaw HN98.out 3
    have n4' : w98.cell? ⟨NB, 4, none⟩ = some (.slice none 0 0) := by simp [World.cell?, HN98.out]
    have f4' := thaw HN98.out 4
    have n5' : w98.cell? ⟨NB, 5, none⟩ = some (.slice none 0 0) := by simp [World.cell?, HN98.out]
    have f5' := thaw HN98.out 5
    have hbn := cell_lt n0'
    go_simp
    refine hK.out _ _ (gone (by kernel_rfl)) ?_
    clear hK K
    (try simp only [ptN])
    refine wpAnyP_done (by kernel_rfl) ?_ _
    go_wp2_with fail
    have HW := set6D HN98.out (.int .i64 7) (.string ⟨#[]⟩) (.string (nmB 104 r2)) (.slice va vn vc) (.slice none 0 0) (.slice none 0 0)
    refine bodyPost_ret (v := .agg #[.int .i64 7, .string ⟨#[]⟩, .string (nmB 104 r2), .slice va vn vc, .slice none 0 0, .slice none 0 0]) (results_cell_row Try.results141 _ _ NB 128 _ (0, 0) _ rfl HW Try.underlying128 rfl (by kernel_rfl)) rfl ?_
    exact ⟨[.int .i64 7, .string ⟨#[]⟩, .string (nmB 104 r2), .slice va vn vc, .slice none 0 0, .slice none 0 0], left, l4, rfl, (fin6 HNB.out HLT.out HG98.out HM98.out (repUp HROW98.out (by omega)) (cons_all (P := fun x => x.formed = true) HFO92.out HFOT.out) (cons_all HFl92.out HFLT.out) (by rw [List.length_cons, HTNE.out]; have h := HT2.out; omega)).1, (fin6 HNB.out HLT.out HG98.out HM98.out (repUp HROW98.out (by omega)) (cons_all (P := fun x => x.formed = true) HFO92.out HFOT.out) (cons_all HFl92.out HFLT.out) (by rw [List.length_cons, HTNE.out]; have h := HT2.out; omega)).2.1, HLL.out.1, Int.le_refl _, (fin6 HNB.out HLT.out HG98.out HM98.out (repUp HROW98.out (by omega)) (cons_all (P := fun x => x.formed = true) HFO92.out HFOT.out) (cons_all HFl92.out HFLT.out) (by rw [List.length_cons, HTNE.out]; have h := HT2.out; omega)).2.2⟩
end Go.Proofs.Ytekhoanjpnjaeaa

