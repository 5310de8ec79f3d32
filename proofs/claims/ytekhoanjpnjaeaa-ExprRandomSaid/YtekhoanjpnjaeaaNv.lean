/- Texts MkF, RndP, laid together. -/
import Derived.Test.YtekhoanjpnjaeaaNn
import Derived.Test.YtekhoanjpnjaeaaNu
/- (*maker).stmt (141): the arms k = 5 and 6 where they nest. -/
namespace Go.Proofs.Ytekhoanjpnjaeaa
open Go.RowKit
/-- What is left of a maker behind an arm whose result was written in block NB alone. -/
theorem fin6 {w w3 : World} {NB MB : Nat} {d : MkD} {prm left op : Int} {sa sb : ByteArray} {l : List Int} {ts : List Ex} {c : Value} {tp ep : Option Addr} {tn tm en em : Nat} (hn : NB = w.heap.size) (hM : MB < w.heap.size) (hg : w.grownBy w3 (some MB)) (hmk : MkAt w3 MB d prm left l) (hr : RepS .i64 (fun b => NB < b) w3 7 ts c) (hfo : ∀ x ∈ ts, x.formed = true) (hfl : ∀ x ∈ ts, Flds .i64 x) (hln : ts.length ≤ 3) :
    StmtC (fun b => w.heap.size ≤ b) ((((((w3.setCell ⟨NB, 0, none⟩ (.int .i64 op)).setCell ⟨NB, 1, none⟩ (.string sa)).setCell ⟨NB, 2, none⟩ (.string sb)).setCell ⟨NB, 3, none⟩ c).setCell ⟨NB, 4, none⟩ (.slice tp tn tm)).setCell ⟨NB, 5, none⟩ (.slice ep en em)) [.int .i64 op, .string sa, .string sb, c, .slice tp tn tm, .slice ep en em] ∧
    MkAt ((((((w3.setCell ⟨NB, 0, none⟩ (.int .i64 op)).setCell ⟨NB, 1, none⟩ (.string sa)).setCell ⟨NB, 2, none⟩ (.string sb)).setCell ⟨NB, 3, none⟩ c).setCell ⟨NB, 4, none⟩ (.slice tp tn tm)).setCell ⟨NB, 5, none⟩ (.slice ep en em)) MB d prm left l ∧
    w.grownBy ((((((w3.setCell ⟨NB, 0, none⟩ (.int .i64 op)).setCell ⟨NB, 1, none⟩ (.string sa)).setCell ⟨NB, 2, none⟩ (.string sb)).setCell ⟨NB, 3, none⟩ c).setCell ⟨NB, 4, none⟩ (.slice tp tn tm)).setCell ⟨NB, 5, none⟩ (.slice ep en em)) (some MB) := by
  have hG := set6_grown w3 NB (.int .i64 op) (.string sa) (.string sb) c (.slice tp tn tm) (.slice ep en em)
  obtain ⟨k1, k2⟩ := fin_grown hn hM hg hmk hG
  refine ⟨⟨op, sa, sb, c, _, _, ts, rfl, hr.mono2 (fun b off v hb hc => ⟨by have h9 : NB < b := hb; omega, ?_⟩) (Nat.le_refl _), hfo, hfl, ⟨_, _, _, rfl⟩, ⟨_, _, _, rfl⟩, hln⟩, k1, k2⟩
  rw [World.cell?_of_block (w := w3) (a := ⟨b, off, none⟩) (hG.block b (World.block_lt_of_cell? w3 ⟨b, off, none⟩ hc) (fun e => by have h9 : NB < b := hb; injection e with e; omega))]
  exact hc
theorem one_fo {t : Ex} (h : t.formed = true) : ∀ x ∈ [t], x.formed = true := fun x hx => by rw [List.mem_singleton] at hx; rw [hx]; exact h
theorem one_fl {t : Ex} (h : Flds .i64 t) : ∀ x ∈ [t], Flds .i64 x := fun x hx => by rw [List.mem_singleton] at hx; rw [hx]; exact h
set_option maxRecDepth 100000 in
set_option maxHeartbeats 4000000 in
theorem stmt5_any (f : Nat) (hbs : BodySaid f) (MB : Nat) (d : MkD) (prm left dp : Int) (l : List Int) (w : World) (h : MkAt w MB d prm left l) (hd : d.Ok prm) (hfl : 0 ≤ d.flags ∧ d.flags ≤ 2) (har : ArOk w MB d) (hl0 : 0 ≤ left) (hl9 : left ≤ 12) (hdp : dp + 1 + f = 3) (h0 : 0 ≤ dp) :
    Calls Try.prog 141 #[.pointer (some ⟨MB, 0, none⟩), .int .i64 5, .int .i64 dp] w fun e w' => ∃ cs left' l', e = .returned (.agg cs.toArray) ∧ StmtC (fun b => w.heap.size ≤ b) w' cs ∧ MkAt w' MB d prm left' l' ∧ 0 ≤ left' ∧ left' ≤ left ∧ w.grownBy w' (some MB) := by
  have HD := Lib.hid hd
  have HFG := Lib.hid hfl
  have HLL := Lib.hid (And.intro hl0 hl9)
  have HA := Lib.hid (more_allocD w (.cells #[.int .i64 0, .string ⟨#[]⟩, .string ⟨#[]⟩, .slice none 0 0, .slice none 0 0, .slice none 0 0] 128))
  have HN1 := Lib.hid (alloc_last w (.cells #[.int .i64 0, .string ⟨#[]⟩, .string ⟨#[]⟩, .slice none 0 0, .slice none 0 0, .slice none 0 0] 128))
  have HM1 := Lib.hid (h.more HA.out)
  have HLT := Lib.hid h.lt
  have HAR := Lib.hid har
  clear h hd hfl har hl0 hl9
  obtain ⟨NB, HNB⟩ : ∃ B, Hid (B = w.heap.size) := ⟨_, Lib.hid rfl⟩
  rw [← HNB.out] at HN1
  have HG1 := Lib.hid (show w.grownBy _ (some MB) from grow_more (B := MB) HA.out)
  have HBS := Lib.hid hbs
  have HDF := Lib.hid (show dp + 1 + (f : Int) = 3 ∧ 0 ≤ dp + 1 from ⟨hdp, by omega⟩)
  have hdp3 : dp < 3 := by omega
  have hwr : IntKind.i64.wrap (dp + 1) = dp + 1 := by rw [IntKind.wrap_i64]; omega
  clear hbs hdp
  go_enter Try.func141, Try.ntmps141
  go_wp2_with fail
  rw [← HNB.out]
  generalize w.alloc (.cells #[.int .i64 0, .string ⟨#[]⟩, .string ⟨#[]⟩, .slice none 0 0, .slice none 0 0, .slice none 0 0] 128) = w1 at *
  have HCR := Lib.hid (truthM_any 3 MB d prm left 0 l w1 HM1.out HD.out HFG.out (by omega) (by omega) (by omega))
  obtain ⟨t2, l2, hR⟩ : ∃ t r, truF d prm 3 0 l = (t, r) := ⟨_, _, rfl⟩
  have HFO2 := Lib.hid (show t2.formed = true by have := truF_formed d prm 3 0 l; rw [hR] at this; exact this)
  rw [hR] at HCR
  clear hR
  refine HCR.out.mono ?_
  rintro e w2 ⟨c2, rfl, hf, hr, hmk, hg⟩
  have HFl2 := Lib.hid hf
  have HM2 := Lib.hid hmk
  have HG2 := Lib.hid (grow_trans HG1.out hg)
  have HN2 := Lib.hid ((hg.block NB (blk_ltD HN1.out) (fun e => by have := HLT.out; have := HNB.out; injection e with e; omega)).trans HN1.out)
  have HR2 := Lib.hid (show RepS .i64 (fun b => NB < b) w2 6 t2.args c2 from hr.mono (fun b hb => by have h9 : w1.heap.size ≤ b := hb; have := blk_ltD HN1.out; omega) (fun _ _ _ _ hc => hc) (Nat.le_refl _))
  obtain ⟨ca2, cc2, hsh⟩ := hr.shape
  dsimp only at hsh
  subst hsh
  clear hf hr hmk hg HCR
  unfold agg
  have HX := Lib.hid (more_allocD w2 (.cells #[.int .i64 t2.op, .string t2.name, .int .i64 t2.n, .slice ca2 t2.args.length cc2] 36))
  have HTB3 := Lib.hid (alloc_last w2 (.cells #[.int .i64 t2.op, .string t2.name, .int .i64 t2.n, .slice ca2 t2.args.length cc2] 36))
  obtain ⟨TB, HTBE⟩ : ∃ B, Hid (B = w2.heap.size) := ⟨_, Lib.hid rfl⟩
  rw [← HTBE.out] at HTB3
  have HTBN := Lib.hid (show NB < TB by rw [HTBE.out]; exact blk_ltD HN2.out)
  go_wp2_with fail
  rw [← HTBE.out]
  generalize w2.alloc (.cells #[.int .i64 t2.op, .string t2.name, .int .i64 t2.n, .slice ca2 t2.args.length cc2] 36) = w3 at *
  have HG3 := Lib.hid (grow_trans HG2.out (grow_more HX.out))
  have HN3 := Lib.hid ((HX.out.block (blk_ltD HN2.out)).trans HN2.out)
  have HM3 := Lib.hid (HM2.out.more HX.out)
  have HR3 := Lib.hid (show RepS .i64 (fun b => NB < b) w3 6 t2.args (.slice ca2 t2.args.length cc2) from HR2.out.mono (fun _ k => k) (fun _ _ _ _ hc => HX.out.cell hc) (Nat.le_refl _))
  have HCB := Lib.hid (HBS.out MB d prm left (dp + 1) l2 w3 HM3.out HD.out HFG.out (HAR.out.grown (Nat.le_of_lt HLT.out) HG3.out) HLL.out.1 HLL.out.2 HDF.out.1 HDF.out.2)
  skip
  refine HCB.out.mono ?_
  rintro e w4 ⟨sv4, n4, lf4, l4, rfl, _, hb, hmk, h0, h1, hg⟩
  obtain ⟨sa4, sc4, rfl, _⟩ := hb.shape
  have HM4 := Lib.hid hmk
  have Hlf4 := Lib.hid (show 0 ≤ lf4 ∧ lf4 ≤ 12 from ⟨h0, by have := HLL.out; omega⟩)
  have HQlf4 := Lib.hid (show lf4 ≤ left from by omega)
  have HG4 := Lib.hid (grow_trans HG3.out hg)
  have HN4 := Lib.hid ((hg.block NB (blk_ltD HN3.out) (fun e => by have := HLT.out; have := HNB.out; injection e with e; omega)).trans HN3.out)
  have HTB4 := Lib.hid ((hg.block TB (blk_ltD HTB3.out) (fun e => by have := HLT.out; have := HNB.out; have := HTBN.out; injection e with e; omega)).trans HTB3.out)
  have HR4 := Lib.hid (show RepS .i64 (fun b => NB < b) w4 6 t2.args (.slice ca2 t2.args.length cc2) from HR3.out.mono2 (fun b off u hb hc => ⟨hb, by rw [World.cell?_of_block (w := w3) (a := ⟨b, off, none⟩) (hg.block b (World.block_lt_of_cell? w3 ⟨b, off, none⟩ hc) (fun e => by have := HLT.out; have := HNB.out; have h9 : NB < b := hb; injection e with e; omega))]; exact hc⟩) (Nat.le_refl _))
  clear hb hmk h0 h1 hg HCB
  have HXt2_4 := HR4
  clear HM1 HN1 HG1 HM2 HN2 HG2 HM3 HN3 HG3 HTB3 HR2 HR3
  have HKT := Lib.hid (show ∀ W : World, W.heap[TB]? = some (.cells #[.int .i64 t2.op, .string t2.name, .int .i64 t2.n, .slice ca2 t2.args.length cc2] 36) → (W.cell? ⟨TB, 0, none⟩ = some (.int .i64 t2.op) ∧ W.cell? ⟨TB, 1, none⟩ = some (.string t2.name) ∧ W.cell? ⟨TB, 2, none⟩ = some (.int .i64 t2.n) ∧ W.cell? ⟨TB, 3, none⟩ = some (.slice ca2 t2.args.length cc2)) from fun W h => ⟨by simp [World.cell?, h], by simp [World.cell?, h], by simp [World.cell?, h], by simp [World.cell?, h]⟩)
  have hbt := blk_ltD HTB4.out
  go_upto_region 10 with fail
  have HDR := Lib.hid (more_drew w4)
  refine wp_region_heldP (S := fun W => W.cell? ⟨TB, 0, none⟩ = some (.int .i64 t2.op) ∧ W.cell? ⟨TB, 1, none⟩ = some (.string t2.name) ∧ W.cell? ⟨TB, 2, none⟩ = some (.int .i64 t2.n) ∧ W.cell? ⟨TB, 3, none⟩ = some (.slice ca2 t2.args.length cc2)) 8 (by kernel_rfl) ?_
  generalize w4.drew = w90 at *
  have HG90 := Lib.hid (grow_trans HG4.out (grow_more HDR.out))
  have HN90 := Lib.hid ((HDR.out.block (blk_ltD HN4.out)).trans HN4.out)
  have HM90 := Lib.hid (HM4.out.more HDR.out)
  have HTB90 := Lib.hid ((HDR.out.block (blk_ltD HTB4.out)).trans HTB4.out)
  have HXt2_90 := Lib.hid (show RepS .i64 (fun b => NB < b) w90 6 t2.args (.slice ca2 t2.args.length cc2) from HXt2_4.out.mono (fun _ k => k) (fun _ _ _ _ hc => HDR.out.cell hc) (Nat.le_refl _))
  refine tkS (i := 0) (v := ?_) (by simp only [opA, op0]; exact rfl) (by kernel_rfl) (by kernel_rfl) (HKT.out _ HTB90.out) ?_ ?_
  rotate_left
  · intro w hS
    (try dsimp only at hS); first | (go_simp; done) | (go_simp; with_reducible rfl)
  (try simp only [ptS, stA, st0, stS])
  refine tkS (i := 2) (v := ?_) (by simp only [opA, opS, op0]; exact rfl) (by kernel_rfl) (by kernel_rfl) (HKT.out _ HTB90.out) ?_ ?_
  rotate_left
  · intro w hS
    (try dsimp only at hS); first | (go_simp; done) | (go_simp; with_reducible rfl)
  (try simp only [ptS, stA, st0, stS])
  refine tkS (i := 3) (v := ?_) (by simp only [opA, opS, op0]; exact rfl) (by kernel_rfl) (by kernel_rfl) (HKT.out _ HTB90.out) ?_ ?_
  rotate_left
  · intro w hS
    (try dsimp only at hS); first | (go_simp; done) | (go_simp; with_reducible rfl)
  (try simp only [ptS, stA, st0, stS])
  refine tkS (i := 4) (v := ?_) (by simp only [opA, opS, op0]; exact rfl) (by kernel_rfl) (by kernel_rfl) (HKT.out _ HTB90.out) ?_ ?_
  rotate_left
  · intro w hS
    (try dsimp only at hS); first | (go_simp; done) | (go_simp; with_reducible rfl)
  (try simp only [ptS, stA, st0, stS])
  refine tkS (i := 5) (v := ?_) (by simp only [opA, opS, op0]; exact rfl) (by kernel_rfl) (by kernel_rfl) (HKT.out _ HTB90.out) ?_ ?_
  rotate_left
  · intro w hS
    (try dsimp only at hS); first | (go_simp; done) | (go_simp; with_reducible rfl)
  (try simp only [ptS, stA, st0, stS])
  refine wpAnyP_ready (rs := [1, 6]) (by kernel_rfl) (by simp) ?_
  refine (AllReadyP.cons (by simp only [opA, opS, op0]; exact rfl) (fun K hK => ?_) (AllReadyP.cons (by simp only [opA, opS, op0]; exact rfl) (fun K hK => ?_) AllReadyP.nil))
  · rw [if_pos (by kernel_rfl)]
    have HY91 := Lib.hid (more_allocD w90 (.cells #[.int .i64 t2.op, .string t2.name, .int .i64 t2.n, .slice ca2 t2.args.length cc2] 36))
    have HB91 := Lib.hid (alloc_last w90 (.cells #[.int .i64 t2.op, .string t2.name, .int .i64 t2.n, .slice ca2 t2.args.length cc2] 36))
    obtain ⟨RB, HRE⟩ : ∃ B, Hid (B = w90.heap.size) := ⟨_, Lib.hid rfl⟩
    go_simp
    rw [← HRE.out] at HB91 ⊢
    generalize w90.alloc (.cells #[.int .i64 t2.op, .string t2.name, .int .i64 t2.n, .slice ca2 t2.args.length cc2] 36) = w91 at *
    have HG91 := Lib.hid (grow_trans HG90.out (grow_more HY91.out))
    have HN91 := Lib.hid ((HY91.out.block (blk_ltD HN90.out)).trans HN90.out)
    have HM91 := Lib.hid (HM90.out.more HY91.out)
    have HTB91 := Lib.hid ((HY91.out.block (blk_ltD HTB90.out)).trans HTB90.out)
    have HXt2_91 := Lib.hid (show RepS .i64 (fun b => NB < b) w91 6 t2.args (.slice ca2 t2.args.length cc2) from HXt2_90.out.mono (fun _ k => k) (fun _ _ _ _ hc => HY91.out.cell hc) (Nat.le_refl _))
    have HROW_91 := Lib.hid (show RepS .i64 (fun b => NB < b) w91 7 [t2] (.slice (some ⟨RB, 0, none⟩) 1 1) from repUp (rep1D HB91.out (by rw [HRE.out]; exact blk_ltD HN90.out) HFl2.out HXt2_91.out) (by omega))
    refine hK.out _ _ (fun _ => (HKT.out _ HTB91.out)) ?_
    clear hK K
    (try simp only [ptS, stA, st0, stS])
    refine wpAnyP_ready (rs := [6]) (by kernel_rfl) (by simp) ?_
    refine (AllReadyP.cons (by simp only [opA, opS, op0]; exact rfl) (fun K hK => ?_) AllReadyP.nil)
    rw [if_pos (by kernel_rfl)]
    have HCB := Lib.hid (HBS.out MB d prm lf4 (dp + 1) l4 w91 HM91.out HD.out HFG.out (HAR.out.grown (Nat.le_of_lt HLT.out) HG91.out) Hlf4.out.1 Hlf4.out.2 HDF.out.1 HDF.out.2)
    go_simp
    refine HCB.out.mono ?_
    rintro e w92 ⟨sv92, n92, lf92, l92, rfl, _, hb, hmk, h0, h1, hg⟩
    obtain ⟨sa92, sc92, rfl, _⟩ := hb.shape
    have HM92 := Lib.hid hmk
    have Hlf92 := Lib.hid (show 0 ≤ lf92 ∧ lf92 ≤ 12 from ⟨h0, by have := Hlf4.out; omega⟩)
    have HQlf92 := Lib.hid (show lf92 ≤ left from by have := HQlf4.out; omega)
    have HG92 := Lib.hid (grow_trans HG91.out hg)
    have HN92 := Lib.hid ((hg.block NB (blk_ltD HN91.out) (fun e => by have := HLT.out; have := HNB.out; injection e with e; omega)).trans HN91.out)
    have HTB92 := Lib.hid ((hg.block TB (blk_ltD HTB91.out) (fun e => by have := HLT.out; have := HNB.out; have := HTBN.out; injection e with e; omega)).trans HTB91.out)
    have HROW_92 := Lib.hid (show RepS .i64 (fun b => NB < b) w92 7 [t2] (.slice (some ⟨RB, 0, none⟩) 1 1) from HROW_91.out.mono2 (fun b off u hb hc => ⟨hb, by rw [World.cell?_of_block (w := w91) (a := ⟨b, off, none⟩) (hg.block b (World.block_lt_of_cell? w91 ⟨b, off, none⟩ hc) (fun e => by have := HLT.out; have := HNB.out; have h9 : NB < b := hb; injection e with e; omega))]; exact hc⟩) (Nat.le_refl _))
    clear hb hmk h0 h1 hg HCB
    try go_wp2_with fail
    refine hK.out _ _ (fun _ => (HKT.out _ HTB92.out)) ?_
    clear hK K
    (try simp only [ptS, stA, st0, stS])
    refine tkS (i := 7) (v := ?_) (by simp only [opA, opS, op0]; exact rfl) (by kernel_rfl) (by kernel_rfl) (HKT.out _ HTB92.out) ?_ ?_
    rotate_left
    · intro w hS
      (try dsimp only at hS); first | (go_simp; done) | (go_simp; with_reducible rfl)
    (try simp only [ptS, stA, st0, stS])
    refine wpAnyP_ready (rs := [8]) (by kernel_rfl) (by simp) ?_
    refine (AllReadyP.cons (by simp only [opA, opS, op0]; exact rfl) (fun K hK => ?_) AllReadyP.nil)
    rw [if_pos (by kernel_rfl)]
    have n0' : w92.cell? ⟨NB, 0, none⟩ = some (.int .i64 0) := by simp [World.cell?, HN92.out]
    have f0' := thaw HN92.out 0
    have n1' : w92.cell? ⟨NB, 1, none⟩ = some (.string ⟨#[]⟩) := by simp [World.cell?, HN92.out]
    have f1' := thaw HN92.out 1
    have n2' : w92.cell? ⟨NB, 2, none⟩ = some (.string ⟨#[]⟩) := by simp [World.cell?, HN92.out]
    have f2' := thaw HN92.out 2
    have n3' : w92.cell? ⟨NB, 3, none⟩ = some (.slice none 0 0) := by simp [World.cell?, HN92.out]
    have f3' := thaw HN92.out 3
    have n4' : w92.cell? ⟨NB, 4, none⟩ = some (.slice none 0 0) := by simp [World.cell?, HN92.out]
    have f4' := thaw HN92.out 4
    have n5' : w92.cell? ⟨NB, 5, none⟩ = some (.slice none 0 0) := by simp [World.cell?, HN92.out]
    have f5' := thaw HN92.out 5
    have hbn := cell_lt n0'
    go_simp
    refine hK.out _ _ (gone (by kernel_rfl)) ?_
    clear hK K
    (try simp only [ptN])
    refine wpAnyP_done (by kernel_rfl) ?_ _
    go_wp2_with fail
    have HW := set6D HN92.out (.int .i64 4) (.string ⟨#[]⟩) (.string ⟨#[]⟩) (.slice (some ⟨RB, 0, none⟩) 1 1) (.slice sa4 n4 sc4) (.slice sa92 n92 sc92)
    refine bodyPost_ret (v := .agg #[.int .i64 4, .string ⟨#[]⟩, .string ⟨#[]⟩, .slice (some ⟨RB, 0, none⟩) 1 1, .slice sa4 n4 sc4, .slice sa92 n92 sc92]) (results_cell_row Try.results141 _ _ NB 128 _ (0, 0) _ rfl HW Try.underlying128 rfl (by kernel_rfl)) rfl ?_
    exact ⟨[.int .i64 4, .string ⟨#[]⟩, .string ⟨#[]⟩, .slice (some ⟨RB, 0, none⟩) 1 1, .slice sa4 n4 sc4, .slice sa92 n92 sc92], lf92, l92, rfl, (fin6 HNB.out HLT.out HG92.out HM92.out HROW_92.out (one_fo HFO2.out) (one_fl HFl2.out) (by simp)).1, (fin6 HNB.out HLT.out HG92.out HM92.out HROW_92.out (one_fo HFO2.out) (one_fl HFl2.out) (by simp)).2.1, Hlf92.out.1, HQlf92.out, (fin6 HNB.out HLT.out HG92.out HM92.out HROW_92.out (one_fo HFO2.out) (one_fl HFl2.out) (by simp)).2.2⟩
  · rw [if_pos (by kernel_rfl)]
    have HCB := Lib.hid (HBS.out MB d prm lf4 (dp + 1) l4 w90 HM90.out HD.out HFG.out (HAR.out.grown (Nat.le_of_lt HLT.out) HG90.out) Hlf4.out.1 Hlf4.out.2 HDF.out.1 HDF.out.2)
    go_simp
    refine HCB.out.mono ?_
    rintro e w91 ⟨sv91, n91, lf91, l91, rfl, _, hb, hmk, h0, h1, hg⟩
    obtain ⟨sa91, sc91, rfl, _⟩ := hb.shape
    have HM91 := Lib.hid hmk
    have Hlf91 := Lib.hid (show 0 ≤ lf91 ∧ lf91 ≤ 12 from ⟨h0, by have := Hlf4.out; omega⟩)
    have HQlf91 := Lib.hid (show lf91 ≤ left from by have := HQlf4.out; omega)
    have HG91 := Lib.hid (grow_trans HG90.out hg)
    have HN91 := Lib.hid ((hg.block NB (blk_ltD HN90.out) (fun e => by have := HLT.out; have := HNB.out; injection e with e; omega)).trans HN90.out)
    have HTB91 := Lib.hid ((hg.block TB (blk_ltD HTB90.out) (fun e => by have := HLT.out; have := HNB.out; have := HTBN.out; injection e with e; omega)).trans HTB90.out)
    have HXt2_91 := Lib.hid (show RepS .i64 (fun b => NB < b) w91 6 t2.args (.slice ca2 t2.args.length cc2) from HXt2_90.out.mono2 (fun b off u hb hc => ⟨hb, by rw [World.cell?_of_block (w := w90) (a := ⟨b, off, none⟩) (hg.block b (World.block_lt_of_cell? w90 ⟨b, off, none⟩ hc) (fun e => by have := HLT.out; have := HNB.out; have h9 : NB < b := hb; injection e with e; omega))]; exact hc⟩) (Nat.le_refl _))
    clear hb hmk h0 h1 hg HCB
    try go_wp2_with fail
    refine hK.out _ _ (fun _ => (HKT.out _ HTB91.out)) ?_
    clear hK K
    (try simp only [ptS, stA, st0, stS])
    refine wpAnyP_ready (rs := [1]) (by kernel_rfl) (by simp) ?_
    refine (AllReadyP.cons (by simp only [opA, opS, op0]; exact rfl) (fun K hK => ?_) AllReadyP.nil)
    rw [if_pos (by kernel_rfl)]
    have HY92 := Lib.hid (more_allocD w91 (.cells #[.int .i64 t2.op, .string t2.name, .int .i64 t2.n, .slice ca2 t2.args.length cc2] 36))
    have HB92 := Lib.hid (alloc_last w91 (.cells #[.int .i64 t2.op, .string t2.name, .int .i64 t2.n, .slice ca2 t2.args.length cc2] 36))
    obtain ⟨RB, HRE⟩ : ∃ B, Hid (B = w91.heap.size) := ⟨_, Lib.hid rfl⟩
    go_simp
    rw [← HRE.out] at HB92 ⊢
    generalize w91.alloc (.cells #[.int .i64 t2.op, .string t2.name, .int .i64 t2.n, .slice ca2 t2.args.length cc2] 36) = w92 at *
    have HG92 := Lib.hid (grow_trans HG91.out (grow_more HY92.out))
    have HN92 := Lib.hid ((HY92.out.block (blk_ltD HN91.out)).trans HN91.out)
    have HM92 := Lib.hid (HM91.out.more HY92.out)
    have HTB92 := Lib.hid ((HY92.out.block (blk_ltD HTB91.out)).trans HTB91.out)
    have HXt2_92 := Lib.hid (show RepS .i64 (fun b => NB < b) w92 6 t2.args (.slice ca2 t2.args.length cc2) from HXt2_91.out.mono (fun _ k => k) (fun _ _ _ _ hc => HY92.out.cell hc) (Nat.le_refl _))
    have HROW_92 := Lib.hid (show RepS .i64 (fun b => NB < b) w92 7 [t2] (.slice (some ⟨RB, 0, none⟩) 1 1) from repUp (rep1D HB92.out (by rw [HRE.out]; exact blk_ltD HN91.out) HFl2.out HXt2_92.out) (by omega))
    refine hK.out _ _ (fun _ => (HKT.out _ HTB92.out)) ?_
    clear hK K
    (try simp only [ptS, stA, st0, stS])
    refine tkS (i := 7) (v := ?_) (by simp only [opA, opS, op0]; exact rfl) (by kernel_rfl) (by kernel_rfl) (HKT.out _ HTB92.out) ?_ ?_
    rotate_left
    · intro w hS
      (try dsimp only at hS); first | (go_simp; done) | (go_simp; with_reducible rfl)
    (try simp only [ptS, stA, st0, stS])
    refine wpAnyP_ready (rs := [8]) (by kernel_rfl) (by simp) ?_
    refine (AllReadyP.cons (by simp only [opA, opS, op0]; exact rfl) (fun K hK => ?_) AllReadyP.nil)
    rw [if_pos (by kernel_rfl)]
    have n0' : w92.cell? ⟨NB, 0, none⟩ = some (.int .i64 0) := by simp [World.cell?, HN92.out]
    have f0' := thaw HN92.out 0
    have n1' : w92.cell? ⟨NB, 1, none⟩ = some (.string ⟨#[]⟩) := by simp [World.cell?, HN92.out]
    have f1' := thaw HN92.out 1
    have n2' : w92.cell? ⟨NB, 2, none⟩ = some (.string ⟨#[]⟩) := by simp [World.cell?, HN92.out]
    have f2' := thaw HN92.out 2
    have n3' : w92.cell? ⟨NB, 3, none⟩ = some (.slice none 0 0) := by simp [World.cell?, HN92.out]
    have f3' := thaw HN92.out 3
    have n4' : w92.cell? ⟨NB, 4, none⟩ = some (.slice none 0 0) := by simp [World.cell?, HN92.out]
    have f4' := thaw HN92.out 4
    have n5' : w92.cell? ⟨NB, 5, none⟩ = some (.slice none 0 0) := by simp [World.cell?, HN92.out]
    have f5' := thaw HN92.out 5
    have hbn := cell_lt n0'
    go_simp
    refine hK.out _ _ (gone (by kernel_rfl)) ?_
    clear hK K
    (try simp only [ptN])
    refine wpAnyP_done (by kernel_rfl) ?_ _
    go_wp2_with fail
    have HW := set6D HN92.out (.int .i64 4) (.string ⟨#[]⟩) (.string ⟨#[]⟩) (.slice (some ⟨RB, 0, none⟩) 1 1) (.slice sa4 n4 sc4) (.slice sa91 n91 sc91)
    refine bodyPost_ret (v := .agg #[.int .i64 4, .string ⟨#[]⟩, .string ⟨#[]⟩, .slice (some ⟨RB, 0, none⟩) 1 1, .slice sa4 n4 sc4, .slice sa91 n91 sc91]) (results_cell_row Try.results141 _ _ NB 128 _ (0, 0) _ rfl HW Try.underlying128 rfl (by kernel_rfl)) rfl ?_
    exact ⟨[.int .i64 4, .string ⟨#[]⟩, .string ⟨#[]⟩, .slice (some ⟨RB, 0, none⟩) 1 1, .slice sa4 n4 sc4, .slice sa91 n91 sc91], lf91, l91, rfl, (fin6 HNB.out HLT.out HG92.out HM92.out HROW_92.out (one_fo HFO2.out) (one_fl HFl2.out) (by simp)).1, (fin6 HNB.out HLT.out HG92.out HM92.out HROW_92.out (one_fo HFO2.out) (one_fl HFl2.out) (by simp)).2.1, Hlf91.out.1, HQlf91.out, (fin6 HNB.out HLT.out HG92.out HM92.out HROW_92.out (one_fo HFO2.out) (one_fl HFl2.out) (by simp)).2.2⟩
set_option maxRecDepth 100000 in
set_option maxHeartbeats 4000000 in
theorem stmt6_any (f : Nat) (hbs : BodySaid f) (MB : Nat) (d : MkD) (prm left dp : Int) (l : List Int) (w : World) (h : MkAt w MB d prm left l) (hd : d.Ok prm) (hfl : 0 ≤ d.flags ∧ d.flags ≤ 2) (har : ArOk w MB d) (hl0 : 0 ≤ left) (hl9 : left ≤ 12) (hdp : dp + 1 + f = 3) (h0 : 0 ≤ dp) :
    Calls Try.prog 141 #[.pointer (some ⟨MB, 0, none⟩), .int .i64 6, .int .i64 dp] w fun e w' => ∃ cs left' l', e = .returned (.agg cs.toArray) ∧ StmtC (fun b => w.heap.size ≤ b) w' cs ∧ MkAt w' MB d prm left' l' ∧ 0 ≤ left' ∧ left' ≤ left ∧ w.grownBy w' (some MB) := by
  have HD := Lib.hid hd
  have HFG := Lib.hid hfl
  have HLL := Lib.hid (And.intro hl0 hl9)
  have HA := Lib.hid (more_allocD w (.cells #[.int .i64 0, .string ⟨#[]⟩, .string ⟨#[]⟩, .slice none 0 0, .slice none 0 0, .slice none 0 0] 128))
  have HN1 := Lib.hid (alloc_last w (.cells #[.int .i64 0, .string ⟨#[]⟩, .string ⟨#[]⟩, .slice none 0 0, .slice none 0 0, .slice none 0 0] 128))
  have HM1 := Lib.hid (h.more HA.out)
  have HLT := Lib.hid h.lt
  have HAR := Lib.hid har
  clear h hd hfl har hl0 hl9
  obtain ⟨NB, HNB⟩ : ∃ B, Hid (B = w.heap.size) := ⟨_, Lib.hid rfl⟩
  rw [← HNB.out] at HN1
  have HG1 := Lib.hid (show w.grownBy _ (some MB) from grow_more (B := MB) HA.out)
  have HBS := Lib.hid hbs
  have HDF := Lib.hid (show dp + 1 + (f : Int) = 3 ∧ 0 ≤ dp + 1 from ⟨hdp, by omega⟩)
  have hdp3 : dp < 3 := by omega
  have hwr : IntKind.i64.wrap (dp + 1) = dp + 1 := by rw [IntKind.wrap_i64]; omega
  clear hbs hdp
  go_enter Try.func141, Try.ntmps141
  go_wp2_with fail
  rw [← HNB.out]
  generalize w.alloc (.cells #[.int .i64 0, .string ⟨#[]⟩, .string ⟨#[]⟩, .slice none 0 0, .slice none 0 0, .slice none 0 0] 128) = w1 at *
  have HCR := Lib.hid (truthM_any 3 MB d prm left 0 l w1 HM1.out HD.out HFG.out (by omega) (by omega) (by omega))
  obtain ⟨t2, l2, hR⟩ : ∃ t r, truF d prm 3 0 l = (t, r) := ⟨_, _, rfl⟩
  have HFO2 := Lib.hid (show t2.formed = true by have := truF_formed d prm 3 0 l; rw [hR] at this; exact this)
  rw [hR] at HCR
  clear hR
  refine HCR.out.mono ?_
  rintro e w2 ⟨c2, rfl, hf, hr, hmk, hg⟩
  have HFl2 := Lib.hid hf
  have HM2 := Lib.hid hmk
  have HG2 := Lib.hid (grow_trans HG1.out hg)
  have HN2 := Lib.hid ((hg.block NB (blk_ltD HN1.out) (fun e => by have := HLT.out; have := HNB.out; injection e with e; omega)).trans HN1.out)
  have HR2 := Lib.hid (show RepS .i64 (fun b => NB < b) w2 6 t2.args c2 from hr.mono (fun b hb => by have h9 : w1.heap.size ≤ b := hb; have := blk_ltD HN1.out; omega) (fun _ _ _ _ hc => hc) (Nat.le_refl _))
  obtain ⟨ca2, cc2, hsh⟩ := hr.shape
  dsimp only at hsh
  subst hsh
  clear hf hr hmk hg HCR
  unfold agg
  have HX := Lib.hid (more_allocD w2 (.cells #[.int .i64 t2.op, .string t2.name, .int .i64 t2.n, .slice ca2 t2.args.length cc2] 36))
  have HTB3 := Lib.hid (alloc_last w2 (.cells #[.int .i64 t2.op, .string t2.name, .int .i64 t2.n, .slice ca2 t2.args.length cc2] 36))
  obtain ⟨TB, HTBE⟩ : ∃ B, Hid (B = w2.heap.size) := ⟨_, Lib.hid rfl⟩
  rw [← HTBE.out] at HTB3
  have HTBN := Lib.hid (show NB < TB by rw [HTBE.out]; exact blk_ltD HN2.out)
  go_wp2_with fail
  rw [← HTBE.out]
  generalize w2.alloc (.cells #[.int .i64 t2.op, .string t2.name, .int .i64 t2.n, .slice ca2 t2.args.length cc2] 36) = w3 at *
  have HG3 := Lib.hid (grow_trans HG2.out (grow_more HX.out))
  have HN3 := Lib.hid ((HX.out.block (blk_ltD HN2.out)).trans HN2.out)
  have HM3 := Lib.hid (HM2.out.more HX.out)
  have HR3 := Lib.hid (show RepS .i64 (fun b => NB < b) w3 6 t2.args (.slice ca2 t2.args.length cc2) from HR2.out.mono (fun _ k => k) (fun _ _ _ _ hc => HX.out.cell hc) (Nat.le_refl _))
  have HCB := Lib.hid (HBS.out MB d prm left (dp + 1) l2 w3 HM3.out HD.out HFG.out (HAR.out.grown (Nat.le_of_lt HLT.out) HG3.out) HLL.out.1 HLL.out.2 HDF.out.1 HDF.out.2)
  skip
  refine HCB.out.mono ?_
  rintro e w4 ⟨sv4, n4, lf4, l4, rfl, _, hb, hmk, h0, h1, hg⟩
  obtain ⟨sa4, sc4, rfl, _⟩ := hb.shape
  have HM4 := Lib.hid hmk
  have Hlf4 := Lib.hid (show 0 ≤ lf4 ∧ lf4 ≤ 12 from ⟨h0, by have := HLL.out; omega⟩)
  have HQlf4 := Lib.hid (show lf4 ≤ left from by omega)
  have HG4 := Lib.hid (grow_trans HG3.out hg)
  have HN4 := Lib.hid ((hg.block NB (blk_ltD HN3.out) (fun e => by have := HLT.out; have := HNB.out; injection e with e; omega)).trans HN3.out)
  have HTB4 := Lib.hid ((hg.block TB (blk_ltD HTB3.out) (fun e => by have := HLT.out; have := HNB.out; have := HTBN.out; injection e with e; omega)).trans HTB3.out)
  have HR4 := Lib.hid (show RepS .i64 (fun b => NB < b) w4 6 t2.args (.slice ca2 t2.args.length cc2) from HR3.out.mono2 (fun b off u hb hc => ⟨hb, by rw [World.cell?_of_block (w := w3) (a := ⟨b, off, none⟩) (hg.block b (World.block_lt_of_cell? w3 ⟨b, off, none⟩ hc) (fun e => by have := HLT.out; have := HNB.out; have h9 : NB < b := hb; injection e with e; omega))]; exact hc⟩) (Nat.le_refl _))
  clear hb hmk h0 h1 hg HCB
  have HXt2_4 := HR4
  clear HM1 HN1 HG1 HM2 HN2 HG2 HM3 HN3 HG3 HTB3 HR2 HR3
  have HKT := Lib.hid (show ∀ W : World, W.heap[TB]? = some (.cells #[.int .i64 t2.op, .string t2.name, .int .i64 t2.n, .slice ca2 t2.args.length cc2] 36) → (W.cell? ⟨TB, 0, none⟩ = some (.int .i64 t2.op) ∧ W.cell? ⟨TB, 1, none⟩ = some (.string t2.name) ∧ W.cell? ⟨TB, 2, none⟩ = some (.int .i64 t2.n) ∧ W.cell? ⟨TB, 3, none⟩ = some (.slice ca2 t2.args.length cc2)) from fun W h => ⟨by simp [World.cell?, h], by simp [World.cell?, h], by simp [World.cell?, h], by simp [World.cell?, h]⟩)
  have hbt := blk_ltD HTB4.out
  go_upto_region 10 with fail
  have HDR := Lib.hid (more_drew w4)
  refine wp_region_heldP (S := fun W => W.cell? ⟨TB, 0, none⟩ = some (.int .i64 t2.op) ∧ W.cell? ⟨TB, 1, none⟩ = some (.string t2.name) ∧ W.cell? ⟨TB, 2, none⟩ = some (.int .i64 t2.n) ∧ W.cell? ⟨TB, 3, none⟩ = some (.slice ca2 t2.args.length cc2)) 8 (by kernel_rfl) ?_
  generalize w4.drew = w90 at *
  have HG90 := Lib.hid (grow_trans HG4.out (grow_more HDR.out))
  have HN90 := Lib.hid ((HDR.out.block (blk_ltD HN4.out)).trans HN4.out)
  have HM90 := Lib.hid (HM4.out.more HDR.out)
  have HTB90 := Lib.hid ((HDR.out.block (blk_ltD HTB4.out)).trans HTB4.out)
  have HXt2_90 := Lib.hid (show RepS .i64 (fun b => NB < b) w90 6 t2.args (.slice ca2 t2.args.length cc2) from HXt2_4.out.mono (fun _ k => k) (fun _ _ _ _ hc => HDR.out.cell hc) (Nat.le_refl _))
  refine tkS (i := 0) (v := ?_) (by simp only [opA, op0]; exact rfl) (by kernel_rfl) (by kernel_rfl) (HKT.out _ HTB90.out) ?_ ?_
  rotate_left
  · intro w hS
    (try dsimp only at hS); first | (go_simp; done) | (go_simp; with_reducible rfl)
  (try simp only [ptS, stA, st0, stS])
  refine tkS (i := 2) (v := ?_) (by simp only [opA, opS, op0]; exact rfl) (by kernel_rfl) (by kernel_rfl) (HKT.out _ HTB90.out) ?_ ?_
  rotate_left
  · intro w hS
    (try dsimp only at hS); first | (go_simp; done) | (go_simp; with_reducible rfl)
  (try simp only [ptS, stA, st0, stS])
  refine tkS (i := 3) (v := ?_) (by simp only [opA, opS, op0]; exact rfl) (by kernel_rfl) (by kernel_rfl) (HKT.out _ HTB90.out) ?_ ?_
  rotate_left
  · intro w hS
    (try dsimp only at hS); first | (go_simp; done) | (go_simp; with_reducible rfl)
  (try simp only [ptS, stA, st0, stS])
  refine tkS (i := 4) (v := ?_) (by simp only [opA, opS, op0]; exact rfl) (by kernel_rfl) (by kernel_rfl) (HKT.out _ HTB90.out) ?_ ?_
  rotate_left
  · intro w hS
    (try dsimp only at hS); first | (go_simp; done) | (go_simp; with_reducible rfl)
  (try simp only [ptS, stA, st0, stS])
  refine tkS (i := 5) (v := ?_) (by simp only [opA, opS, op0]; exact rfl) (by kernel_rfl) (by kernel_rfl) (HKT.out _ HTB90.out) ?_ ?_
  rotate_left
  · intro w hS
    (try dsimp only at hS); first | (go_simp; done) | (go_simp; with_reducible rfl)
  (try simp only [ptS, stA, st0, stS])
  refine wpAnyP_ready (rs := [1, 6]) (by kernel_rfl) (by simp) ?_
  refine (AllReadyP.cons (by simp only [opA, opS, op0]; exact rfl) (fun K hK => ?_) (AllReadyP.cons (by simp only [opA, opS, op0]; exact rfl) (fun K hK => ?_) AllReadyP.nil))
  · rw [if_pos (by kernel_rfl)]
    have HY91 := Lib.hid (more_allocD w90 (.cells #[.int .i64 t2.op, .string t2.name, .int .i64 t2.n, .slice ca2 t2.args.length cc2] 36))
    have HB91 := Lib.hid (alloc_last w90 (.cells #[.int .i64 t2.op, .string t2.name, .int .i64 t2.n, .slice ca2 t2.args.length cc2] 36))
    obtain ⟨RB, HRE⟩ : ∃ B, Hid (B = w90.heap.size) := ⟨_, Lib.hid rfl⟩
    go_simp
    rw [← HRE.out] at HB91 ⊢
    generalize w90.alloc (.cells #[.int .i64 t2.op, .string t2.name, .int .i64 t2.n, .slice ca2 t2.args.length cc2] 36) = w91 at *
    have HG91 := Lib.hid (grow_trans HG90.out (grow_more HY91.out))
    have HN91 := Lib.hid ((HY91.out.block (blk_ltD HN90.out)).trans HN90.out)
    have HM91 := Lib.hid (HM90.out.more HY91.out)
    have HTB91 := Lib.hid ((HY91.out.block (blk_ltD HTB90.out)).trans HTB90.out)
    have HXt2_91 := Lib.hid (show RepS .i64 (fun b => NB < b) w91 6 t2.args (.slice ca2 t2.args.length cc2) from HXt2_90.out.mono (fun _ k => k) (fun _ _ _ _ hc => HY91.out.cell hc) (Nat.le_refl _))
    have HROW_91 := Lib.hid (show RepS .i64 (fun b => NB < b) w91 7 [t2] (.slice (some ⟨RB, 0, none⟩) 1 1) from repUp (rep1D HB91.out (by rw [HRE.out]; exact blk_ltD HN90.out) HFl2.out HXt2_91.out) (by omega))
    refine hK.out _ _ (fun _ => (HKT.out _ HTB91.out)) ?_
    clear hK K
    (try simp only [ptS, stA, st0, stS])
    refine wpAnyP_ready (rs := [6]) (by kernel_rfl) (by simp) ?_
    refine (AllReadyP.cons (by simp only [opA, opS, op0]; exact rfl) (fun K hK => ?_) AllReadyP.nil)
    rw [if_pos (by kernel_rfl)]
    have HCB := Lib.hid (HBS.out MB d prm lf4 (dp + 1) l4 w91 HM91.out HD.out HFG.out (HAR.out.grown (Nat.le_of_lt HLT.out) HG91.out) Hlf4.out.1 Hlf4.out.2 HDF.out.1 HDF.out.2)
    go_simp
    refine HCB.out.mono ?_
    rintro e w92 ⟨sv92, n92, lf92, l92, rfl, _, hb, hmk, h0, h1, hg⟩
    obtain ⟨sa92, sc92, rfl, _⟩ := hb.shape
    have HM92 := Lib.hid hmk
    have Hlf92 := Lib.hid (show 0 ≤ lf92 ∧ lf92 ≤ 12 from ⟨h0, by have := Hlf4.out; omega⟩)
    have HQlf92 := Lib.hid (show lf92 ≤ left from by have := HQlf4.out; omega)
    have HG92 := Lib.hid (grow_trans HG91.out hg)
    have HN92 := Lib.hid ((hg.block NB (blk_ltD HN91.out) (fun e => by have := HLT.out; have := HNB.out; injection e with e; omega)).trans HN91.out)
    have HTB92 := Lib.hid ((hg.block TB (blk_ltD HTB91.out) (fun e => by have := HLT.out; have := HNB.out; have := HTBN.out; injection e with e; omega)).trans HTB91.out)
    have HROW_92 := Lib.hid (show RepS .i64 (fun b => NB < b) w92 7 [t2] (.slice (some ⟨RB, 0, none⟩) 1 1) from HROW_91.out.mono2 (fun b off u hb hc => ⟨hb, by rw [World.cell?_of_block (w := w91) (a := ⟨b, off, none⟩) (hg.block b (World.block_lt_of_cell? w91 ⟨b, off, none⟩ hc) (fun e => by have := HLT.out; have := HNB.out; have h9 : NB < b := hb; injection e with e; omega))]; exact hc⟩) (Nat.le_refl _))
    clear hb hmk h0 h1 hg HCB
    try go_wp2_with fail
    refine hK.out _ _ (fun _ => (HKT.out _ HTB92.out)) ?_
    clear hK K
    (try simp only [ptS, stA, st0, stS])
    refine tkS (i := 7) (v := ?_) (by simp only [opA, opS, op0]; exact rfl) (by kernel_rfl) (by kernel_rfl) (HKT.out _ HTB92.out) ?_ ?_
    rotate_left
    · intro w hS
      (try dsimp only at hS); first | (go_simp; done) | (go_simp; with_reducible rfl)
    (try simp only [ptS, stA, st0, stS])
    refine wpAnyP_ready (rs := [8]) (by kernel_rfl) (by simp) ?_
    refine (AllReadyP.cons (by simp only [opA, opS, op0]; exact rfl) (fun K hK => ?_) AllReadyP.nil)
    rw [if_pos (by kernel_rfl)]
    have n0' : w92.cell? ⟨NB, 0, none⟩ = some (.int .i64 0) := by simp [World.cell?, HN92.out]
    have f0' := thaw HN92.out 0
    have n1' : w92.cell? ⟨NB, 1, none⟩ = some (.string ⟨#[]⟩) := by simp [World.cell?, HN92.out]
    have f1' := thaw HN92.out 1
    have n2' : w92.cell? ⟨NB, 2, none⟩ = some (.string ⟨#[]⟩) := by simp [World.cell?, HN92.out]
    have f2' := thaw HN92.out 2
    have n3' : w92.cell? ⟨NB, 3, none⟩ = some (.slice none 0 0) := by simp [World.cell?, HN92.out]
    have f3' := thaw HN92.out 3
    have n4' : w92.cell? ⟨NB, 4, none⟩ = some (.slice none 0 0) := by simp [World.cell?, HN92.out]
    have f4' := thaw HN92.out 4
    have n5' : w92.cell? ⟨NB, 5, none⟩ = some (.slice none 0 0) := by simp [World.cell?, HN92.out]
    have f5' := thaw HN92.out 5
    have hbn := cell_lt n0'
    go_simp
    refine hK.out _ _ (gone (by kernel_rfl)) ?_
    clear hK K
    (try simp only [ptN])
    refine wpAnyP_done (by kernel_rfl) ?_ _
    go_wp2_with fail
    have HW := set6D HN92.out (.int .i64 4) (.string ⟨#[]⟩) (.string ⟨#[]⟩) (.slice (some ⟨RB, 0, none⟩) 1 1) (.slice sa4 n4 sc4) (.slice sa92 n92 sc92)
    refine bodyPost_ret (v := .agg #[.int .i64 4, .string ⟨#[]⟩, .string ⟨#[]⟩, .slice (some ⟨RB, 0, none⟩) 1 1, .slice sa4 n4 sc4, .slice sa92 n92 sc92]) (results_cell_row Try.results141 _ _ NB 128 _ (0, 0) _ rfl HW Try.underlying128 rfl (by kernel_rfl)) rfl ?_
    exact ⟨[.int .i64 4, .string ⟨#[]⟩, .string ⟨#[]⟩, .slice (some ⟨RB, 0, none⟩) 1 1, .slice sa4 n4 sc4, .slice sa92 n92 sc92], lf92, l92, rfl, (fin6 HNB.out HLT.out HG92.out HM92.out HROW_92.out (one_fo HFO2.out) (one_fl HFl2.out) (by simp)).1, (fin6 HNB.out HLT.out HG92.out HM92.out HROW_92.out (one_fo HFO2.out) (one_fl HFl2.out) (by simp)).2.1, Hlf92.out.1, HQlf92.out, (fin6 HNB.out HLT.out HG92.out HM92.out HROW_92.out (one_fo HFO2.out) (one_fl HFl2.out) (by simp)).2.2⟩
  · rw [if_pos (by kernel_rfl)]
    have HCB := Lib.hid (HBS.out MB d prm lf4 (dp + 1) l4 w90 HM90.out HD.out HFG.out (HAR.out.grown (Nat.le_of_lt HLT.out) HG90.out) Hlf4.out.1 Hlf4.out.2 HDF.out.1 HDF.out.2)
    go_simp
    refine HCB.out.mono ?_
    rintro e w91 ⟨sv91, n91, lf91, l91, rfl, _, hb, hmk, h0, h1, hg⟩
    obtain ⟨sa91, sc91, rfl, _⟩ := hb.shape
    have HM91 := Lib.hid hmk
    have Hlf91 := Lib.hid (show 0 ≤ lf91 ∧ lf91 ≤ 12 from ⟨h0, by have := Hlf4.out; omega⟩)
    have HQlf91 := Lib.hid (show lf91 ≤ left from by have := HQlf4.out; omega)
    have HG91 := Lib.hid (grow_trans HG90.out hg)
    have HN91 := Lib.hid ((hg.block NB (blk_ltD HN90.out) (fun e => by have := HLT.out; have := HNB.out; injection e with e; omega)).trans HN90.out)
    have HTB91 := Lib.hid ((hg.block TB (blk_ltD HTB90.out) (fun e => by have := HLT.out; have := HNB.out; have := HTBN.out; injection e with e; omega)).trans HTB90.out)
    have HXt2_91 := Lib.hid (show RepS .i64 (fun b => NB < b) w91 6 t2.args (.slice ca2 t2.args.length cc2) from HXt2_90.out.mono2 (fun b off u hb hc => ⟨hb, by rw [World.cell?_of_block (w := w90) (a := ⟨b, off, none⟩) (hg.block b (World.block_lt_of_cell? w90 ⟨b, off, none⟩ hc) (fun e => by have := HLT.out; have := HNB.out; have h9 : NB < b := hb; injection e with e; omega))]; exact hc⟩) (Nat.le_refl _))
    clear hb hmk h0 h1 hg HCB
    try go_wp2_with fail
    refine hK.out _ _ (fun _ => (HKT.out _ HTB91.out)) ?_
    clear hK K
    (try simp only [ptS, stA, st0, stS])
    refine wpAnyP_ready (rs := [1]) (by kernel_rfl) (by simp) ?_
    refine (AllReadyP.cons (by simp only [opA, opS, op0]; exact rfl) (fun K hK => ?_) AllReadyP.nil)
    rw [if_pos (by kernel_rfl)]
    have HY92 := Lib.hid (more_allocD w91 (.cells #[.int .i64 t2.op, .string t2.name, .int .i64 t2.n, .slice ca2 t2.args.length cc2] 36))
    have HB92 := Lib.hid (alloc_last w91 (.cells #[.int .i64 t2.op, .string t2.name, .int .i64 t2.n, .slice ca2 t2.args.length cc2] 36))
    obtain ⟨RB, HRE⟩ : ∃ B, Hid (B = w91.heap.size) := ⟨_, Lib.hid rfl⟩
    go_simp
    rw [← HRE.out] at HB92 ⊢
    generalize w91.alloc (.cells #[.int .i64 t2.op, .string t2.name, .int .i64 t2.n, .slice ca2 t2.args.length cc2] 36) = w92 at *
    have HG92 := Lib.hid (grow_trans HG91.out (grow_more HY92.out))
    have HN92 := Lib.hid ((HY92.out.block (blk_ltD HN91.out)).trans HN91.out)
    have HM92 := Lib.hid (HM91.out.more HY92.out)
    have HTB92 := Lib.hid ((HY92.out.block (blk_ltD HTB91.out)).trans HTB91.out)
    have HXt2_92 := Lib.hid (show RepS .i64 (fun b => NB < b) w92 6 t2.args (.slice ca2 t2.args.length cc2) from HXt2_91.out.mono (fun _ k => k) (fun _ _ _ _ hc => HY92.out.cell hc) (Nat.le_refl _))
    have HROW_92 := Lib.hid (show RepS .i64 (fun b => NB < b) w92 7 [t2] (.slice (some ⟨RB, 0, none⟩) 1 1) from repUp (rep1D HB92.out (by rw [HRE.out]; exact blk_ltD HN91.out) HFl2.out HXt2_92.out) (by omega))
    refine hK.out _ _ (fun _ => (HKT.out _ HTB92.out)) ?_
    clear hK K
    (try simp only [ptS, stA, st0, stS])
    refine tkS (i := 7) (v := ?_) (by simp only [opA, opS, op0]; exact rfl) (by kernel_rfl) (by kernel_rfl) (HKT.out _ HTB92.out) ?_ ?_
    rotate_left
    · intro w hS
      (try dsimp only at hS); first | (go_simp; done) | (go_simp; with_reducible rfl)
    (try simp only [ptS, stA, st0, stS])
    refine wpAnyP_ready (rs := [8]) (by kernel_rfl) (by simp) ?_
    refine (AllReadyP.cons (by simp only [opA, opS, op0]; exact rfl) (fun K hK => ?_) AllReadyP.nil)
    rw [if_pos (by kernel_rfl)]
    have n0' : w92.cell? ⟨NB, 0, none⟩ = some (.int .i64 0) := by simp [World.cell?, HN92.out]
    have f0' := thaw HN92.out 0
    have n1' : w92.cell? ⟨NB, 1, none⟩ = some (.string ⟨#[]⟩) := by simp [World.cell?, HN92.out]
    have f1' := thaw HN92.out 1
    have n2' : w92.cell? ⟨NB, 2, none⟩ = some (.string ⟨#[]⟩) := by simp [World.cell?, HN92.out]
    have f2' := thaw HN92.out 2
    have n3' : w92.cell? ⟨NB, 3, none⟩ = some (.slice none 0 0) := by simp [World.cell?, HN92.out]
    have f3' := thaw HN92.out 3
    have n4' : w92.cell? ⟨NB, 4, none⟩ = some (.slice none 0 0) := by simp [World.cell?, HN92.out]
    have f4' := thaw HN92.out 4
    have n5' : w92.cell? ⟨NB, 5, none⟩ = some (.slice none 0 0) := by simp [World.cell?, HN92.out]
    have f5' := thaw HN92.out 5
    have hbn := cell_lt n0'
    go_simp
    refine hK.out _ _ (gone (by kernel_rfl)) ?_
    clear hK K
    (try simp only [ptN])
    refine wpAnyP_done (by kernel_rfl) ?_ _
    go_wp2_with fail
    have HW := set6D HN92.out (.int .i64 4) (.string ⟨#[]⟩) (.string ⟨#[]⟩) (.slice (some ⟨RB, 0, none⟩) 1 1) (.slice sa4 n4 sc4) (.slice sa91 n91 sc91)
    refine bodyPost_ret (v := .agg #[.int .i64 4, .string ⟨#[]⟩, .string ⟨#[]⟩, .slice (some ⟨RB, 0, none⟩) 1 1, .slice sa4 n4 sc4, .slice sa91 n91 sc91]) (results_cell_row Try.results141 _ _ NB 128 _ (0, 0) _ rfl HW Try.underlying128 rfl (by kernel_rfl)) rfl ?_
    exact ⟨[.int .i64 4, .string ⟨#[]⟩, .string ⟨#[]⟩, .slice (some ⟨RB, 0, none⟩) 1 1, .slice sa4 n4 sc4, .slice sa91 n91 sc91], lf91, l91, rfl, (fin6 HNB.out HLT.out HG92.out HM92.out HROW_92.out (one_fo HFO2.out) (one_fl HFl2.out) (by simp)).1, (fin6 HNB.out HLT.out HG92.out HM92.out HROW_92.out (one_fo HFO2.out) (one_fl HFl2.out) (by simp)).2.1, Hlf91.out.1, HQlf91.out, (fin6 HNB.out HLT.out HG92.out HM92.out HROW_92.out (one_fo HFO2.out) (one_fl HFl2.out) (by simp)).2.2⟩
end Go.Proofs.Ytekhoanjpnjaeaa

/- Plain: the value of an expression does not hang on the order of distinct names; how many names a formed expression has. -/
namespace Go.Proofs.Ytekhoanjpnjaeaa
open Go.RowKit
theorem placeN_nodup {l : List ByteArray} (hn : l.Nodup) (k : Nat) (hk : k < l.length) : placeN l l[k] = some k :=
  placeN_some l _ k hk (fun i h => by
    cases hx : (l[i].toList == l[k].toList) with
    | false => rfl
    | true =>
      have e := (eq_of _ _).1 hx
      exact absurd e (List.pairwise_iff_getElem.1 hn i k (by omega) hk h)) (beq_self_eq_true _)
theorem setS_nodup (X : List ByteArray) : (setS X).Nodup := List.Pairwise.imp (R := sLt) (S := fun a b => a ≠ b) (fun {a b} hab e => sLt_irrefl b (by rw [e] at hab; exact hab)) (setS_asc X)
/-- The environment with the names in the other order. -/
def revE (e : EnvD) : EnvD := ⟨e.names.reverse, e.vals.reverse, e.tnames, e.tabs, e.now⟩
section
variable {e : EnvD} (hv : e.names.length = e.vals.length) (ht : e.tnames.length = e.tabs.length) (hn : e.names.Nodup)
include hv hn in
theorem valOf_rev {s : ByteArray} (h : s ∈ e.names) : (revE e).valOf s = e.valOf s := by
  obtain ⟨k, hk, rfl⟩ := List.getElem_of_mem h
  have h1 := placeN_nodup hn k hk
  have hr : e.names.length - 1 - k < e.names.reverse.length := by rw [List.length_reverse]; omega
  have h2 := placeN_nodup (List.pairwise_reverse.2 (hn.imp (fun h => Ne.symm h))) (e.names.length - 1 - k) hr
  have h3 : e.names.reverse[e.names.length - 1 - k] = e.names[k] := by
    rw [List.getElem_reverse]
    congr 1; omega
  rw [h3] at h2
  unfold EnvD.valOf revE
  dsimp only
  rw [h1, h2]
  simp only [Option.getD_some]
  rw [List.getElem?_reverse (by omega)]
  congr 2; omega
include hv hn in
theorem valN_rev {op n : Int} {name : ByteArray} {vs : List Int} (h1 : op = 5 → name ∈ e.names) : valN (revE e) op name n vs = valN e op name n vs := by
  unfold valN
  have hw : (revE e).now = e.now := rfl
  have htb : (revE e).tabOf name = e.tabOf name := rfl
  rw [hw, htb]
  by_cases h5 : op = 5
  · rw [valOf_rev hv hn (h1 h5)]
  · simp only [h5, if_false]
include hv hn in
theorem valT_rev : ∀ t, (∀ x ∈ nms false t, x ∈ e.names) → valT (revE e) t = valT e t := by
  apply Ex.indT
  intro op name n args ih h1
  rw [valT_eq, valT_eq]
  simp only [Ex.op, Ex.name, Ex.n, Ex.args]
  rw [valN_rev hv hn (fun h => nms_node h1 (by simpa using h))]
  rw [List.map_congr_left (fun t m => ih t m (nms_arg h1 m))]
include hv ht hn in
/-- A formed expression has a value, the same in either order. -/
theorem evalV_rev (t : Ex) (hf : t.formed = true) (h1 : ∀ x ∈ nms false t, x ∈ e.names) (h2 : ∀ x ∈ nms true t, x ∈ e.tnames) :
    evalV e t = (valT e t, 0) ∧ evalV (revE e) t = (valT e t, 0) := by
  have b1 : boundT e t = true := boundT_all t h1 h2
  have b2 : boundT (revE e) t = true := boundT_all t (fun x hx => by show x ∈ e.names.reverse; rw [List.mem_reverse]; exact h1 x hx) h2
  have l1 : ¬ (e.names.length ≠ e.vals.length ∨ e.tnames.length ≠ e.tabs.length) := by rintro (h | h); exact h hv; exact h ht
  have l2 : ¬ ((revE e).names.length ≠ (revE e).vals.length ∨ (revE e).tnames.length ≠ (revE e).tabs.length) := by
    show ¬ (e.names.reverse.length ≠ e.vals.reverse.length ∨ e.tnames.length ≠ e.tabs.length)
    rw [List.length_reverse, List.length_reverse]; exact l1
  unfold evalV
  rw [if_neg l1, if_neg l2, b1, b2, hf, valT_rev hv hn t h1]
  exact ⟨by simp, by simp⟩
end
theorem one_le {c : Prop} [Decidable c] (x : ByteArray) : (if c then [x] else []).length ≤ 1 := by split <;> simp
theorem opnd_le (op : Int) : opnd op ≤ 2 := by
  unfold opnd
  repeat' split
  all_goals omega
theorem nmsL_bnd (k : Bool) (B : Nat) : ∀ (l : List Ex), (∀ t ∈ l, (nms k t).length ≤ B) → (nmsL k l).length ≤ l.length * B
  | [], _ => by simp [nmsL]
  | t :: ts, h => by
    rw [nmsL, List.length_append, List.length_cons, Nat.add_mul, Nat.one_mul]
    have h1 := h t List.mem_cons_self
    have h2 := nmsL_bnd k B ts (fun x hx => h x (List.mem_cons_of_mem _ hx))
    omega
theorem nms_small {k : Bool} {S : Nat → Prop} {W : World} : ∀ (D : Nat) (t : Ex) (c : Value), t.formed = true → RepS .i64 S W D t.args c → (nms k t).length + 1 ≤ 2 ^ (D + 1)
  | 0, t, c, _, h => by
    have ha : t.args = [] := h.1
    rw [nms_eq, ha, nmsL, List.append_nil]
    unfold nmsN
    have h1 := @one_le (if k = true then 6 ≤ t.op ∧ t.op ≤ 8 else t.op = 5) _ t.name
    omega
  | D + 1, t, c, hf, h => by
    obtain ⟨ho, hfa⟩ := formed_args hf
    have h2 := opnd_le t.op
    have hl : t.args.length ≤ 2 := by omega
    have hB : ∀ x ∈ t.args, (nms k x).length ≤ 2 ^ (D + 1) - 1 := fun x hx => by
      obtain ⟨a, cap, rfl⟩ := h.shape
      obtain ⟨d', b, off, hd, _, _, _, hi⟩ := h.at (List.ne_nil_of_mem hx)
      obtain ⟨i, hi', rfl⟩ := List.getElem_of_mem hx
      obtain ⟨_, _, _, _, c', _, hr⟩ := hi i hi'
      have hd' : D = d' := by omega
      subst hd'
      have h9 := nms_small (k := k) D _ c' (hfa _ (List.getElem_mem hi')) hr
      omega
    have h3 := nmsL_bnd k _ _ hB
    have h5 : (nmsN k t.op t.name).length ≤ 1 := one_le t.name
    have hp : 0 < 2 ^ (D + 1) := Nat.two_pow_pos _
    have h6 : t.args.length * (2 ^ (D + 1) - 1) ≤ 2 * (2 ^ (D + 1) - 1) := Nat.mul_le_mul_right _ hl
    rw [nms_eq, List.length_append, Nat.pow_succ 2 (D + 1)]
    omega
end Go.Proofs.Ytekhoanjpnjaeaa

