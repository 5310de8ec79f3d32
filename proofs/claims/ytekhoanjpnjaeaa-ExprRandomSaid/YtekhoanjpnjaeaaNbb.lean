/- Texts MkG, laid together. -/
import Derived.Test.YtekhoanjpnjaeaaNv
/- (*maker).stmt (141): the arm k = 7 where it nests. -/
namespace Go.Proofs.Ytekhoanjpnjaeaa
open Go.RowKit
set_option maxRecDepth 100000 in
set_option maxHeartbeats 4000000 in
theorem stmt7_any (f : Nat) (hbs : BodySaid f) (MB : Nat) (d : MkD) (prm left dp : Int) (l : List Int) (w : World) (h : MkAt w MB d prm left l) (hd : d.Ok prm) (hfl : 0 ≤ d.flags ∧ d.flags ≤ 2) (har : ArOk w MB d) (hl0 : 0 ≤ left) (hl9 : left ≤ 12) (hdp : dp + 1 + f = 3) (h0 : 0 ≤ dp) (hdp2 : dp < 2) :
    Calls Try.prog 141 #[.pointer (some ⟨MB, 0, none⟩), .int .i64 7, .int .i64 dp] w fun e w' => ∃ cs left' l', e = .returned (.agg cs.toArray) ∧ StmtC (fun b => w.heap.size ≤ b) w' cs ∧ MkAt w' MB d prm left' l' ∧ 0 ≤ left' ∧ left' ≤ left ∧ w.grownBy w' (some MB) := by
  have HD := Lib.hid hd
  have HFG := Lib.hid hfl
  have HLL := Lib.hid (And.intro hl0 hl9)
  have HA := Lib.hid (more_allocD w (.cells #[.int .i64 0, .string ⟨#[]⟩, .string ⟨#[]⟩, .slice none 0 0, .slice none 0 0, .slice none 0 0] 128))
  have HN1 := Lib.hid (alloc_last w (.cells #[.int .i64 0, .string ⟨#[]⟩, .string ⟨#[]⟩, .slice none 0 0, .slice none 0 0, .slice none 0 0] 128))
  have HM1 := Lib.hid (h.more HA.out)
  have HLT := Lib.hid h.lt
  have HAR := Lib.hid har
  clear h hd hfl har hl0 hl9
  obtain ⟨NB, HNB⟩ : ∃ B, Hid (B = w.heap.size) := ⟨_, Lib.hid rfl⟩
  rw [← HNB.out] at HN1
  have HG1 := Lib.hid (show w.grownBy _ (some MB) from grow_more (B := MB) HA.out)
  have HBS := Lib.hid hbs
  have HDF := Lib.hid (show dp + 1 + (f : Int) = 3 ∧ 0 ≤ dp + 1 from ⟨hdp, by omega⟩)
  have hwr : IntKind.i64.wrap (dp + 1) = dp + 1 := by rw [IntKind.wrap_i64]; omega
  clear hbs hdp
  go_enter Try.func141, Try.ntmps141
  go_wp2_with fail
  rw [← HNB.out]
  generalize w.alloc (.cells #[.int .i64 0, .string ⟨#[]⟩, .string ⟨#[]⟩, .slice none 0 0, .slice none 0 0, .slice none 0 0] 128) = w1 at *
  have HCR := Lib.hid (truthM_any 3 MB d prm left 0 l w1 HM1.out HD.out HFG.out (by omega) (by omega) (by omega))
  obtain ⟨t2, l2, hR⟩ : ∃ t r, truF d prm 3 0 l = (t, r) := ⟨_, _, rfl⟩
  have HFO2 := Lib.hid (show t2.formed = true by have := truF_formed d prm 3 0 l; rw [hR] at this; exact this)
  rw [hR] at HCR
  clear hR
  refine HCR.out.mono ?_
  rintro e w2 ⟨c2, rfl, hf, hr, hmk, hg⟩
  have HFl2 := Lib.hid hf
  have HM2 := Lib.hid hmk
  have HG2 := Lib.hid (grow_trans HG1.out hg)
  have HN2 := Lib.hid ((hg.block NB (blk_ltD HN1.out) (fun e => by have := HLT.out; have := HNB.out; injection e with e; omega)).trans HN1.out)
  have HR2 := Lib.hid (show RepS .i64 (fun b => NB < b) w2 6 t2.args c2 from hr.mono (fun b hb => by have h9 : w1.heap.size ≤ b := hb; have := blk_ltD HN1.out; omega) (fun _ _ _ _ hc => hc) (Nat.le_refl _))
  obtain ⟨ca2, cc2, hsh⟩ := hr.shape
  dsimp only at hsh
  subst hsh
  clear hf hr hmk hg HCR
  unfold agg
  have HX := Lib.hid (more_allocD w2 (.cells #[.int .i64 t2.op, .string t2.name, .int .i64 t2.n, .slice ca2 t2.args.length cc2] 36))
  have HTB3 := Lib.hid (alloc_last w2 (.cells #[.int .i64 t2.op, .string t2.name, .int .i64 t2.n, .slice ca2 t2.args.length cc2] 36))
  obtain ⟨TB, HTBE⟩ : ∃ B, Hid (B = w2.heap.size) := ⟨_, Lib.hid rfl⟩
  rw [← HTBE.out] at HTB3
  have HTBN := Lib.hid (show NB < TB by rw [HTBE.out]; exact blk_ltD HN2.out)
  go_upto_region 13 with fail
  rw [← HTBE.out]
  generalize w2.alloc (.cells #[.int .i64 t2.op, .string t2.name, .int .i64 t2.n, .slice ca2 t2.args.length cc2] 36) = w3 at *
  have HG3 := Lib.hid (grow_trans HG2.out (grow_more HX.out))
  have HN3 := Lib.hid ((HX.out.block (blk_ltD HN2.out)).trans HN2.out)
  have HM3 := Lib.hid (HM2.out.more HX.out)
  have HR3 := Lib.hid (show RepS .i64 (fun b => NB < b) w3 6 t2.args (.slice ca2 t2.args.length cc2) from HR2.out.mono (fun _ k => k) (fun _ _ _ _ hc => HX.out.cell hc) (Nat.le_refl _))
  have HXt2_3 := HR3
  clear HM1 HN1 HG1 HM2 HN2 HG2 HR2
  have HKT := Lib.hid (show ∀ W : World, W.heap[TB]? = some (.cells #[.int .i64 t2.op, .string t2.name, .int .i64 t2.n, .slice ca2 t2.args.length cc2] 36) → (W.cell? ⟨TB, 0, none⟩ = some (.int .i64 t2.op) ∧ W.cell? ⟨TB, 1, none⟩ = some (.string t2.name) ∧ W.cell? ⟨TB, 2, none⟩ = some (.int .i64 t2.n) ∧ W.cell? ⟨TB, 3, none⟩ = some (.slice ca2 t2.args.length cc2)) from fun W h => ⟨by simp [World.cell?, h], by simp [World.cell?, h], by simp [World.cell?, h], by simp [World.cell?, h]⟩)
  have hbt := blk_ltD HTB3.out
  have HDR := Lib.hid (more_drew w3)
  refine wp_region_heldP (S := fun W => W.cell? ⟨TB, 0, none⟩ = some (.int .i64 t2.op) ∧ W.cell? ⟨TB, 1, none⟩ = some (.string t2.name) ∧ W.cell? ⟨TB, 2, none⟩ = some (.int .i64 t2.n) ∧ W.cell? ⟨TB, 3, none⟩ = some (.slice ca2 t2.args.length cc2)) 7 (by kernel_rfl) ?_
  generalize w3.drew = w90 at *
  have HG90 := Lib.hid (grow_trans HG3.out (grow_more HDR.out))
  have HN90 := Lib.hid ((HDR.out.block (blk_ltD HN3.out)).trans HN3.out)
  have HM90 := Lib.hid (HM3.out.more HDR.out)
  have HTB90 := Lib.hid ((HDR.out.block (blk_ltD HTB3.out)).trans HTB3.out)
  have HXt2_90 := Lib.hid (show RepS .i64 (fun b => NB < b) w90 6 t2.args (.slice ca2 t2.args.length cc2) from HXt2_3.out.mono (fun _ k => k) (fun _ _ _ _ hc => HDR.out.cell hc) (Nat.le_refl _))
  refine tkS (i := 0) (v := ?_) (by simp only [opA, op0]; exact rfl) (by kernel_rfl) (by kernel_rfl) (HKT.out _ HTB90.out) ?_ ?_
  rotate_left
  · intro w hS
    (try dsimp only at hS); first | (go_simp; done) | (go_simp; with_reducible rfl)
  (try simp only [ptS, stA, st0, stS])
  refine tkS (i := 2) (v := ?_) (by simp only [opA, opS, op0]; exact rfl) (by kernel_rfl) (by kernel_rfl) (HKT.out _ HTB90.out) ?_ ?_
  rotate_left
  · intro w hS
    (try dsimp only at hS); first | (go_simp; done) | (go_simp; with_reducible rfl)
  (try simp only [ptS, stA, st0, stS])
  refine tkS (i := 3) (v := ?_) (by simp only [opA, opS, op0]; exact rfl) (by kernel_rfl) (by kernel_rfl) (HKT.out _ HTB90.out) ?_ ?_
  rotate_left
  · intro w hS
    (try dsimp only at hS); first | (go_simp; done) | (go_simp; with_reducible rfl)
  (try simp only [ptS, stA, st0, stS])
  refine tkS (i := 4) (v := ?_) (by simp only [opA, opS, op0]; exact rfl) (by kernel_rfl) (by kernel_rfl) (HKT.out _ HTB90.out) ?_ ?_
  rotate_left
  · intro w hS
    (try dsimp only at hS); first | (go_simp; done) | (go_simp; with_reducible rfl)
  (try simp only [ptS, stA, st0, stS])
  refine wpAnyP_ready (rs := [1, 5]) (by kernel_rfl) (by simp) ?_
  refine (AllReadyP.cons (by simp only [opA, opS, op0]; exact rfl) (fun K hK => ?_) (AllReadyP.cons (by simp only [opA, opS, op0]; exact rfl) (fun K hK => ?_) AllReadyP.nil))
  · rw [if_pos (by kernel_rfl)]
    have HY91 := Lib.hid (more_allocD w90 (.cells #[.int .i64 t2.op, .string t2.name, .int .i64 t2.n, .slice ca2 t2.args.length cc2] 36))
    have HB91 := Lib.hid (alloc_last w90 (.cells #[.int .i64 t2.op, .string t2.name, .int .i64 t2.n, .slice ca2 t2.args.length cc2] 36))
    obtain ⟨RB, HRE⟩ : ∃ B, Hid (B = w90.heap.size) := ⟨_, Lib.hid rfl⟩
    go_simp
    rw [← HRE.out] at HB91 ⊢
    generalize w90.alloc (.cells #[.int .i64 t2.op, .string t2.name, .int .i64 t2.n, .slice ca2 t2.args.length cc2] 36) = w91 at *
    have HG91 := Lib.hid (grow_trans HG90.out (grow_more HY91.out))
    have HN91 := Lib.hid ((HY91.out.block (blk_ltD HN90.out)).trans HN90.out)
    have HM91 := Lib.hid (HM90.out.more HY91.out)
    have HTB91 := Lib.hid ((HY91.out.block (blk_ltD HTB90.out)).trans HTB90.out)
    have HXt2_91 := Lib.hid (show RepS .i64 (fun b => NB < b) w91 6 t2.args (.slice ca2 t2.args.length cc2) from HXt2_90.out.mono (fun _ k => k) (fun _ _ _ _ hc => HY91.out.cell hc) (Nat.le_refl _))
    have HROW_91 := Lib.hid (show RepS .i64 (fun b => NB < b) w91 7 [t2] (.slice (some ⟨RB, 0, none⟩) 1 1) from repUp (rep1D HB91.out (by rw [HRE.out]; exact blk_ltD HN90.out) HFl2.out HXt2_91.out) (by omega))
    refine hK.out _ _ (fun _ => (HKT.out _ HTB91.out)) ?_
    clear hK K
    (try simp only [ptS, stA, st0, stS])
    refine wpAnyP_ready (rs := [5]) (by kernel_rfl) (by simp) ?_
    refine (AllReadyP.cons (by simp only [opA, opS, op0]; exact rfl) (fun K hK => ?_) AllReadyP.nil)
    rw [if_pos (by kernel_rfl)]
    have HCB := Lib.hid (HBS.out MB d prm left (dp + 1) l2 w91 HM91.out HD.out HFG.out (HAR.out.grown (Nat.le_of_lt HLT.out) HG91.out) HLL.out.1 HLL.out.2 HDF.out.1 HDF.out.2)
    go_simp
    refine HCB.out.mono ?_
    rintro e w92 ⟨sv92, n92, lf92, l92, rfl, _, hb, hmk, h0, h1, hg⟩
    obtain ⟨sa92, sc92, rfl, _⟩ := hb.shape
    have HM92 := Lib.hid hmk
    have Hlf92 := Lib.hid (show 0 ≤ lf92 ∧ lf92 ≤ 12 from ⟨h0, by have := HLL.out; omega⟩)
    have HQlf92 := Lib.hid (show lf92 ≤ left from by omega)
    have HG92 := Lib.hid (grow_trans HG91.out hg)
    have HN92 := Lib.hid ((hg.block NB (blk_ltD HN91.out) (fun e => by have := HLT.out; have := HNB.out; injection e with e; omega)).trans HN91.out)
    have HTB92 := Lib.hid ((hg.block TB (blk_ltD HTB91.out) (fun e => by have := HLT.out; have := HNB.out; have := HTBN.out; injection e with e; omega)).trans HTB91.out)
    have HROW_92 := Lib.hid (show RepS .i64 (fun b => NB < b) w92 7 [t2] (.slice (some ⟨RB, 0, none⟩) 1 1) from HROW_91.out.mono2 (fun b off u hb hc => ⟨hb, by rw [World.cell?_of_block (w := w91) (a := ⟨b, off, none⟩) (hg.block b (World.block_lt_of_cell? w91 ⟨b, off, none⟩ hc) (fun e => by have := HLT.out; have := HNB.out; have h9 : NB < b := hb; injection e with e; omega))]; exact hc⟩) (Nat.le_refl _))
    clear hb hmk h0 h1 hg HCB
    try go_wp2_with fail
    refine hK.out _ _ (fun _ => (HKT.out _ HTB92.out)) ?_
    clear hK K
    (try simp only [ptS, stA, st0, stS])
    refine tkS (i := 6) (v := ?_) (by simp only [opA, opS, op0]; exact rfl) (by kernel_rfl) (by kernel_rfl) (HKT.out _ HTB92.out) ?_ ?_
    rotate_left
    · intro w hS
      (try dsimp only at hS); first | (go_simp; done) | (go_simp; with_reducible rfl)
    (try simp only [ptS, stA, st0, stS])
    refine wpAnyP_ready (rs := [7]) (by kernel_rfl) (by simp) ?_
    refine (AllReadyP.cons (by simp only [opA, opS, op0]; exact rfl) (fun K hK => ?_) AllReadyP.nil)
    rw [if_pos (by kernel_rfl)]
    have n0' : w92.cell? ⟨NB, 0, none⟩ = some (.int .i64 0) := by simp [World.cell?, HN92.out]
    have f0' := thaw HN92.out 0
    have n1' : w92.cell? ⟨NB, 1, none⟩ = some (.string ⟨#[]⟩) := by simp [World.cell?, HN92.out]
    have f1' := thaw HN92.out 1
    have n2' : w92.cell? ⟨NB, 2, none⟩ = some (.string ⟨#[]⟩) := by simp [World.cell?, HN92.out]
    have f2' := thaw HN92.out 2
    have n3' : w92.cell? ⟨NB, 3, none⟩ = some (.slice none 0 0) := by simp [World.cell?, HN92.out]
    have f3' := thaw HN92.out 3
    have n4' : w92.cell? ⟨NB, 4, none⟩ = some (.slice none 0 0) := by simp [World.cell?, HN92.out]
    have f4' := thaw HN92.out 4
    have n5' : w92.cell? ⟨NB, 5, none⟩ = some (.slice none 0 0) := by simp [World.cell?, HN92.out]
    have f5' := thaw HN92.out 5
    have hbn := cell_lt n0'
    go_simp
    refine hK.out _ _ (gone (by kernel_rfl)) ?_
    clear hK K
    (try simp only [ptN])
    refine wpAnyP_done (by kernel_rfl) ?_ _
    go_wp2_with fail
    have HW := set6D HN92.out (.int .i64 5) (.string ⟨#[]⟩) (.string ⟨#[]⟩) (.slice (some ⟨RB, 0, none⟩) 1 1) (.slice sa92 n92 sc92) (.slice none 0 0)
    refine bodyPost_ret (v := .agg #[.int .i64 5, .string ⟨#[]⟩, .string ⟨#[]⟩, .slice (some ⟨RB, 0, none⟩) 1 1, .slice sa92 n92 sc92, .slice none 0 0]) (results_cell_row Try.results141 _ _ NB 128 _ (0, 0) _ rfl HW Try.underlying128 rfl (by kernel_rfl)) rfl ?_
    exact ⟨[.int .i64 5, .string ⟨#[]⟩, .string ⟨#[]⟩, .slice (some ⟨RB, 0, none⟩) 1 1, .slice sa92 n92 sc92, .slice none 0 0], lf92, l92, rfl, (fin6 HNB.out HLT.out HG92.out HM92.out HROW_92.out (one_fo HFO2.out) (one_fl HFl2.out) (by simp)).1, (fin6 HNB.out HLT.out HG92.out HM92.out HROW_92.out (one_fo HFO2.out) (one_fl HFl2.out) (by simp)).2.1, Hlf92.out.1, HQlf92.out, (fin6 HNB.out HLT.out HG92.out HM92.out HROW_92.out (one_fo HFO2.out) (one_fl HFl2.out) (by simp)).2.2⟩
  · rw [if_pos (by kernel_rfl)]
    have HCB := Lib.hid (HBS.out MB d prm left (dp + 1) l2 w90 HM90.out HD.out HFG.out (HAR.out.grown (Nat.le_of_lt HLT.out) HG90.out) HLL.out.1 HLL.out.2 HDF.out.1 HDF.out.2)
    go_simp
    refine HCB.out.mono ?_
    rintro e w91 ⟨sv91, n91, lf91, l91, rfl, _, hb, hmk, h0, h1, hg⟩
    obtain ⟨sa91, sc91, rfl, _⟩ := hb.shape
    have HM91 := Lib.hid hmk
    have Hlf91 := Lib.hid (show 0 ≤ lf91 ∧ lf91 ≤ 12 from ⟨h0, by have := HLL.out; omega⟩)
    have HQlf91 := Lib.hid (show lf91 ≤ left from by omega)
    have HG91 := Lib.hid (grow_trans HG90.out hg)
    have HN91 := Lib.hid ((hg.block NB (blk_ltD HN90.out) (fun e => by have := HLT.out; have := HNB.out; injection e with e; omega)).trans HN90.out)
    have HTB91 := Lib.hid ((hg.block TB (blk_ltD HTB90.out) (fun e => by have := HLT.out; have := HNB.out; have := HTBN.out; injection e with e; omega)).trans HTB90.out)
    have HXt2_91 := Lib.hid (show RepS .i64 (fun b => NB < b) w91 6 t2.args (.slice ca2 t2.args.length cc2) from HXt2_90.out.mono2 (fun b off u hb hc => ⟨hb, by rw [World.cell?_of_block (w := w90) (a := ⟨b, off, none⟩) (hg.block b (World.block_lt_of_cell? w90 ⟨b, off, none⟩ hc) (fun e => by have := HLT.out; have := HNB.out; have h9 : NB < b := hb; injection e with e; omega))]; exact hc⟩) (Nat.le_refl _))
    clear hb hmk h0 h1 hg HCB
    try go_wp2_with fail
    refine hK.out _ _ (fun _ => (HKT.out _ HTB91.out)) ?_
    clear hK K
    (try simp only [ptS, stA, st0, stS])
    refine wpAnyP_ready (rs := [1]) (by kernel_rfl) (by simp) ?_
    refine (AllReadyP.cons (by simp only [opA, opS, op0]; exact rfl) (fun K hK => ?_) AllReadyP.nil)
    rw [if_pos (by kernel_rfl)]
    have HY92 := Lib.hid (more_allocD w91 (.cells #[.int .i64 t2.op, .string t2.name, .int .i64 t2.n, .slice ca2 t2.args.length cc2] 36))
    have HB92 := Lib.hid (alloc_last w91 (.cells #[.int .i64 t2.op, .string t2.name, .int .i64 t2.n, .slice ca2 t2.args.length cc2] 36))
    obtain ⟨RB, HRE⟩ : ∃ B, Hid (B = w91.heap.size) := ⟨_, Lib.hid rfl⟩
    go_simp
    rw [← HRE.out] at HB92 ⊢
    generalize w91.alloc (.cells #[.int .i64 t2.op, .string t2.name, .int .i64 t2.n, .slice ca2 t2.args.length cc2] 36) = w92 at *
    have HG92 := Lib.hid (grow_trans HG91.out (grow_more HY92.out))
    have HN92 := Lib.hid ((HY92.out.block (blk_ltD HN91.out)).trans HN91.out)
    have HM92 := Lib.hid (HM91.out.more HY92.out)
    have HTB92 := Lib.hid ((HY92.out.block (blk_ltD HTB91.out)).trans HTB91.out)
    have HXt2_92 := Lib.hid (show RepS .i64 (fun b => NB < b) w92 6 t2.args (.slice ca2 t2.args.length cc2) from HXt2_91.out.mono (fun _ k => k) (fun _ _ _ _ hc => HY92.out.cell hc) (Nat.le_refl _))
    have HROW_92 := Lib.hid (show RepS .i64 (fun b => NB < b) w92 7 [t2] (.slice (some ⟨RB, 0, none⟩) 1 1) from repUp (rep1D HB92.out (by rw [HRE.out]; exact blk_ltD HN91.out) HFl2.out HXt2_92.out) (by omega))
    refine hK.out _ _ (fun _ => (HKT.out _ HTB92.out)) ?_
    clear hK K
    (try simp only [ptS, stA, st0, stS])
    refine tkS (i := 6) (v := ?_) (by simp only [opA, opS, op0]; exact rfl) (by kernel_rfl) (by kernel_rfl) (HKT.out _ HTB92.out) ?_ ?_
    rotate_left
    · intro w hS
      (try dsimp only at hS); first | (go_simp; done) | (go_simp; with_reducible rfl)
    (try simp only [ptS, stA, st0, stS])
    refine wpAnyP_ready (rs := [7]) (by kernel_rfl) (by simp) ?_
    refine (AllReadyP.cons (by simp only [opA, opS, op0]; exact rfl) (fun K hK => ?_) AllReadyP.nil)
    rw [if_pos (by kernel_rfl)]
    have n0' : w92.cell? ⟨NB, 0, none⟩ = some (.int .i64 0) := by simp [World.cell?, HN92.out]
    have f0' := thaw HN92.out 0
    have n1' : w92.cell? ⟨NB, 1, none⟩ = some (.string ⟨#[]⟩) := by simp [World.cell?, HN92.out]
    have f1' := thaw HN92.out 1
    have n2' : w92.cell? ⟨NB, 2, none⟩ = some (.string ⟨#[]⟩) := by simp [World.cell?, HN92.out]
    have f2' := thaw HN92.out 2
    have n3' : w92.cell? ⟨NB, 3, none⟩ = some (.slice none 0 0) := by simp [World.cell?, HN92.out]
    have f3' := thaw HN92.out 3
    have n4' : w92.cell? ⟨NB, 4, none⟩ = some (.slice none 0 0) := by simp [World.cell?, HN92.out]
    have f4' := thaw HN92.out 4
    have n5' : w92.cell? ⟨NB, 5, none⟩ = some (.slice none 0 0) := by simp [World.cell?, HN92.out]
    have f5' := thaw HN92.out 5
    have hbn := cell_lt n0'
    go_simp
    refine hK.out _ _ (gone (by kernel_rfl)) ?_
    clear hK K
    (try simp only [ptN])
    refine wpAnyP_done (by kernel_rfl) ?_ _
    go_wp2_with fail
    have HW := set6D HN92.out (.int .i64 5) (.string ⟨#[]⟩) (.string ⟨#[]⟩) (.slice (some ⟨RB, 0, none⟩) 1 1) (.slice sa91 n91 sc91) (.slice none 0 0)
    refine bodyPost_ret (v := .agg #[.int .i64 5, .string ⟨#[]⟩, .string ⟨#[]⟩, .slice (some ⟨RB, 0, none⟩) 1 1, .slice sa91 n91 sc91, .slice none 0 0]) (results_cell_row Try.results141 _ _ NB 128 _ (0, 0) _ rfl HW Try.underlying128 rfl (by kernel_rfl)) rfl ?_
    exact ⟨[.int .i64 5, .string ⟨#[]⟩, .string ⟨#[]⟩, .slice (some ⟨RB, 0, none⟩) 1 1, .slice sa91 n91 sc91, .slice none 0 0], lf91, l91, rfl, (fin6 HNB.out HLT.out HG92.out HM92.out HROW_92.out (one_fo HFO2.out) (one_fl HFl2.out) (by simp)).1, (fin6 HNB.out HLT.out HG92.out HM92.out HROW_92.out (one_fo HFO2.out) (one_fl HFl2.out) (by simp)).2.1, Hlf91.out.1, HQlf91.out, (fin6 HNB.out HLT.out HG92.out HM92.out HROW_92.out (one_fo HFO2.out) (one_fl HFl2.out) (by simp)).2.2⟩
end Go.Proofs.Ytekhoanjpnjaeaa

