/- Texts MkZ4, MkZ3, MkZc, MkZ0, laid together. -/
import Derived.Test.YtekhoanjpnjaeaaNu
/- (*maker).stmt (141): the arm k = 4. -/
namespace Go.Proofs.Ytekhoanjpnjaeaa
open Go.RowKit
set_option maxRecDepth 100000 in
set_option maxHeartbeats 2000000 in
theorem stmt4_any (MB : Nat) (d : MkD) (prm left dp : Int) (l : List Int) (w : World) (h : MkAt w MB d prm left l) (hd : d.Ok prm) (htb : 0 < d.tables) :
    Calls Try.prog 141 #[.pointer (some ⟨MB, 0, none⟩), .int .i64 4, .int .i64 dp] w fun e w' => ∃ cs l', e = .returned (.agg cs.toArray) ∧ StmtC (fun b => w.heap.size ≤ b) w' cs ∧ MkAt w' MB d prm left l' ∧ w.grownBy w' (some MB) := by
  have HD := Lib.hid hd
  have HA := Lib.hid (more_allocD w (.cells #[.int .i64 0, .string ⟨#[]⟩, .string ⟨#[]⟩, .slice none 0 0, .slice none 0 0, .slice none 0 0] 128))
  have HN1 := Lib.hid (alloc_last w (.cells #[.int .i64 0, .string ⟨#[]⟩, .string ⟨#[]⟩, .slice none 0 0, .slice none 0 0, .slice none 0 0] 128))
  have HM1 := Lib.hid (h.more HA.out)
  have HLT := Lib.hid h.lt
  clear h hd
  obtain ⟨NB, HNB⟩ : ∃ B, Hid (B = w.heap.size) := ⟨_, Lib.hid rfl⟩
  rw [← HNB.out] at HN1
  have c1 := HM1.out.c0.2.1
  have hbm := cell_lt c1
  have hne : NB ≠ MB := by have := HNB.out; have := HLT.out; omega
  go_enter Try.func141, Try.ntmps141
  go_wp2_with fail
  rw [← HNB.out]
  generalize w.alloc (.cells #[.int .i64 0, .string ⟨#[]⟩, .string ⟨#[]⟩, .slice none 0 0, .slice none 0 0, .slice none 0 0] 128) = w1 at *
  have HCR := Lib.hid (number_any 4 MB d prm left 0 l w1 HM1.out HD.out (by omega) (by omega) (by omega))
  obtain ⟨t3, l3, hR⟩ : ∃ t r, numF d prm 4 0 l = (t, r) := ⟨_, _, rfl⟩
  have HFO := Lib.hid (show t3.formed = true by have := numF_formed d prm 4 0 l; rw [hR] at this; exact this)
  rw [hR] at HCR
  clear hR
  refine HCR.out.mono ?_
  rintro e w3 ⟨c3, rfl, hf, hr, hmk, hg⟩
  have HFl := Lib.hid hf
  have HRp := Lib.hid hr
  have HM3 := Lib.hid hmk
  have HG3 := Lib.hid (grow_trans (grow_more HA.out) hg)
  have HN3 := Lib.hid ((hg.block NB (blk_ltD HN1.out) (fun e => by have := HLT.out; have := HNB.out; injection e with e; omega)).trans HN1.out)
  obtain ⟨ca3, cc3, hsh⟩ := hr.shape
  dsimp only at hsh
  subst hsh
  clear hf hr hmk hg HCR
  unfold agg
  have n0 : w3.cell? ⟨NB, 0, none⟩ = some (.int .i64 0) := by simp [World.cell?, HN3.out]
  have n1 : w3.cell? ⟨NB, 1, none⟩ = some (.string ⟨#[]⟩) := by simp [World.cell?, HN3.out]
  have n2 : w3.cell? ⟨NB, 2, none⟩ = some (.string ⟨#[]⟩) := by simp [World.cell?, HN3.out]
  have n3 : w3.cell? ⟨NB, 3, none⟩ = some (.slice none 0 0) := by simp [World.cell?, HN3.out]
  have n4 : w3.cell? ⟨NB, 4, none⟩ = some (.slice none 0 0) := by simp [World.cell?, HN3.out]
  have n5 : w3.cell? ⟨NB, 5, none⟩ = some (.slice none 0 0) := by simp [World.cell?, HN3.out]
  have hbn := cell_lt n0
  have f0 := thaw HN3.out 0
  have f1 := thaw HN3.out 1
  have f2 := thaw HN3.out 2
  have f3 := thaw HN3.out 3
  have f4 := thaw HN3.out 4
  have f5 := thaw HN3.out 5
  go_wp2_with fail
  have HW := set6D HN3.out (.int .i64 3) (.string ⟨#[116, 48]⟩) (.string ⟨#[]⟩) (.slice (some ⟨w3.heap.size, 0, none⟩) 1 1) (.slice none 0 0) (.slice none 0 0)
  have hWg := set6_grown w3 NB (.int .i64 3) (.string ⟨#[116, 48]⟩) (.string ⟨#[]⟩) (.slice (some ⟨w3.heap.size, 0, none⟩) 1 1) (.slice none 0 0) (.slice none 0 0)
  have hWs := set6_sizeD w3 NB (.int .i64 3) (.string ⟨#[116, 48]⟩) (.string ⟨#[]⟩) (.slice (some ⟨w3.heap.size, 0, none⟩) 1 1) (.slice none 0 0) (.slice none 0 0)
  refine bodyPost_ret (v := .agg #[.int .i64 3, .string ⟨#[116, 48]⟩, .string ⟨#[]⟩, .slice (some ⟨w3.heap.size, 0, none⟩) 1 1, .slice none 0 0, .slice none 0 0]) (results_cell_row Try.results141 _ _ NB 128 _ (0, 0) _ rfl (((more_allocD _ _).block (blk_ltD HW)).trans HW) Try.underlying128 rfl (by kernel_rfl)) rfl ?_
  generalize (((((w3.setCell ⟨NB, 0, none⟩ (.int .i64 3)).setCell ⟨NB, 1, none⟩ (.string ⟨#[116, 48]⟩)).setCell ⟨NB, 2, none⟩ (.string ⟨#[]⟩)).setCell ⟨NB, 3, none⟩ (.slice (some ⟨w3.heap.size, 0, none⟩) 1 1)).setCell ⟨NB, 4, none⟩ (.slice none 0 0)).setCell ⟨NB, 5, none⟩ (.slice none 0 0) = W at *
  have hNew := alloc_last W (.cells #[.int .i64 t3.op, .string t3.name, .int .i64 t3.n, .slice ca3 t3.args.length cc3] 36)
  rw [hWs] at hNew
  have hM := more_allocD W (.cells #[.int .i64 t3.op, .string t3.name, .int .i64 t3.n, .slice ca3 t3.args.length cc3] 36)
  have hn1 := blk_ltD HN1.out
  have hs3 := HG3.out.size
  have hk := HRp.out.mono2 (S' := fun b => w.heap.size ≤ b) (w' := W.alloc (.cells #[.int .i64 t3.op, .string t3.name, .int .i64 t3.n, .slice ca3 t3.args.length cc3] 36)) (fun b off v hb hc => ⟨by have h9 : w1.heap.size ≤ b := hb; have := HNB.out; omega, hM.cell (by
    have h9 : w1.heap.size ≤ b := hb
    rw [World.cell?_of_block (w := w3) (a := ⟨b, off, none⟩) (hWg.block b (World.block_lt_of_cell? w3 ⟨b, off, none⟩ hc) (fun e => by injection e with e; omega))]; exact hc)⟩) (Nat.le_refl _)
  obtain ⟨k1, k2⟩ := fin_grown HNB.out HLT.out HG3.out HM3.out (grow_trans hWg (grow_more hM))
  exact ⟨[.int .i64 3, .string ⟨#[116, 48]⟩, .string ⟨#[]⟩, .slice (some ⟨w3.heap.size, 0, none⟩) 1 1, .slice none 0 0, .slice none 0 0], l3, rfl, ⟨3, _, _, _, _, _, [t3], rfl, repUp (rep1D hNew hs3 HFl.out hk) (by omega), (fun x hx => by rw [List.mem_singleton] at hx; rw [hx]; exact HFO.out), (fun x hx => by rw [List.mem_singleton] at hx; rw [hx]; exact HFl.out), ⟨_, _, _, rfl⟩, ⟨_, _, _, rfl⟩, by simp⟩, k1, k2⟩
end Go.Proofs.Ytekhoanjpnjaeaa

/- (*maker).stmt (141): the arm k = 3. -/
namespace Go.Proofs.Ytekhoanjpnjaeaa
open Go.RowKit
set_option maxRecDepth 100000 in
set_option maxHeartbeats 2000000 in
theorem stmt3_any (MB : Nat) (d : MkD) (prm left dp : Int) (l : List Int) (w : World) (h : MkAt w MB d prm left l) (hd : d.Ok prm) (htb : 0 < d.tables) :
    Calls Try.prog 141 #[.pointer (some ⟨MB, 0, none⟩), .int .i64 3, .int .i64 dp] w fun e w' => ∃ cs l', e = .returned (.agg cs.toArray) ∧ StmtC (fun b => w.heap.size ≤ b) w' cs ∧ MkAt w' MB d prm left l' ∧ w.grownBy w' (some MB) := by
  have HD := Lib.hid hd
  have HA := Lib.hid (more_allocD w (.cells #[.int .i64 0, .string ⟨#[]⟩, .string ⟨#[]⟩, .slice none 0 0, .slice none 0 0, .slice none 0 0] 128))
  have HN1 := Lib.hid (alloc_last w (.cells #[.int .i64 0, .string ⟨#[]⟩, .string ⟨#[]⟩, .slice none 0 0, .slice none 0 0, .slice none 0 0] 128))
  have HM1 := Lib.hid (h.more HA.out)
  have HLT := Lib.hid h.lt
  clear h hd
  obtain ⟨NB, HNB⟩ : ∃ B, Hid (B = w.heap.size) := ⟨_, Lib.hid rfl⟩
  rw [← HNB.out] at HN1
  have c1 := HM1.out.c0.2.1
  have hbm := cell_lt c1
  have hne : NB ≠ MB := by have := HNB.out; have := HLT.out; omega
  go_enter Try.func141, Try.ntmps141
  go_wp2_with fail
  rw [← HNB.out]
  generalize w.alloc (.cells #[.int .i64 0, .string ⟨#[]⟩, .string ⟨#[]⟩, .slice none 0 0, .slice none 0 0, .slice none 0 0] 128) = w1 at *
  have HCR := Lib.hid (number_any 4 MB d prm left 0 l w1 HM1.out HD.out (by omega) (by omega) (by omega))
  obtain ⟨t3, l3, hR⟩ : ∃ t r, numF d prm 4 0 l = (t, r) := ⟨_, _, rfl⟩
  have HFO := Lib.hid (show t3.formed = true by have := numF_formed d prm 4 0 l; rw [hR] at this; exact this)
  rw [hR] at HCR
  clear hR
  refine HCR.out.mono ?_
  rintro e w3 ⟨c3, rfl, hf, hr, hmk, hg⟩
  have HFl := Lib.hid hf
  have HRp := Lib.hid hr
  have HM3 := Lib.hid hmk
  have HG3 := Lib.hid (grow_trans (grow_more HA.out) hg)
  have HN3 := Lib.hid ((hg.block NB (blk_ltD HN1.out) (fun e => by have := HLT.out; have := HNB.out; injection e with e; omega)).trans HN1.out)
  obtain ⟨ca3, cc3, hsh⟩ := hr.shape
  dsimp only at hsh
  subst hsh
  clear hf hr hmk hg HCR
  unfold agg
  go_wp2_with fail
  have HCS := Lib.hid (number_any 4 MB d prm left 0 l3 w3 HM3.out HD.out (by omega) (by omega) (by omega))
  obtain ⟨t4, l4, hR⟩ : ∃ t r, numF d prm 4 0 l3 = (t, r) := ⟨_, _, rfl⟩
  have HFO4 := Lib.hid (show t4.formed = true by have := numF_formed d prm 4 0 l3; rw [hR] at this; exact this)
  rw [hR] at HCS
  clear hR
  refine HCS.out.mono ?_
  rintro e w4 ⟨c4, rfl, hf, hr, hmk, hg⟩
  have HFl4 := Lib.hid hf
  have HRp4 := Lib.hid hr
  have HM4 := Lib.hid hmk
  have HG4 := Lib.hid (grow_trans HG3.out hg)
  have HN4 := Lib.hid ((hg.block NB (blk_ltD HN3.out) (fun e => by have := HLT.out; have := HNB.out; injection e with e; omega)).trans HN3.out)
  have hs4 := hg.size
  have HR3 := Lib.hid (show RepS .i64 (fun b => NB < b ∧ b < w3.heap.size) w4 4 t3.args (.slice ca3 t3.args.length cc3) from HRp.out.mono2 (fun b off v hb hc => ⟨⟨by have h9 : w1.heap.size ≤ b := hb; have := blk_ltD HN1.out; omega, World.block_lt_of_cell? w3 ⟨b, off, none⟩ hc⟩, by
    have h9 : w1.heap.size ≤ b := hb
    have := blk_ltD HN1.out
    rw [World.cell?_of_block (w := w3) (a := ⟨b, off, none⟩) (hg.block b (World.block_lt_of_cell? w3 ⟨b, off, none⟩ hc) (fun e => by have := HLT.out; have := HNB.out; injection e with e; omega))]; exact hc⟩) (Nat.le_refl _))
  obtain ⟨ca4, cc4, hsh⟩ := hr.shape
  dsimp only at hsh
  subst hsh
  clear hf hr hmk hg HCS
  unfold agg
  have n0 : w4.cell? ⟨NB, 0, none⟩ = some (.int .i64 0) := by simp [World.cell?, HN4.out]
  have n1 : w4.cell? ⟨NB, 1, none⟩ = some (.string ⟨#[]⟩) := by simp [World.cell?, HN4.out]
  have n2 : w4.cell? ⟨NB, 2, none⟩ = some (.string ⟨#[]⟩) := by simp [World.cell?, HN4.out]
  have n3 : w4.cell? ⟨NB, 3, none⟩ = some (.slice none 0 0) := by simp [World.cell?, HN4.out]
  have n4 : w4.cell? ⟨NB, 4, none⟩ = some (.slice none 0 0) := by simp [World.cell?, HN4.out]
  have n5 : w4.cell? ⟨NB, 5, none⟩ = some (.slice none 0 0) := by simp [World.cell?, HN4.out]
  have hbn := cell_lt n0
  have f0 := thaw HN4.out 0
  have f1 := thaw HN4.out 1
  have f2 := thaw HN4.out 2
  have f3 := thaw HN4.out 3
  have f4 := thaw HN4.out 4
  have f5 := thaw HN4.out 5
  go_wp2_with fail
  have HW := set6D HN4.out (.int .i64 2) (.string ⟨#[116, 48]⟩) (.string ⟨#[]⟩) (.slice (some ⟨w4.heap.size, 0, none⟩) 2 2) (.slice none 0 0) (.slice none 0 0)
  have hWg := set6_grown w4 NB (.int .i64 2) (.string ⟨#[116, 48]⟩) (.string ⟨#[]⟩) (.slice (some ⟨w4.heap.size, 0, none⟩) 2 2) (.slice none 0 0) (.slice none 0 0)
  have hWs := set6_sizeD w4 NB (.int .i64 2) (.string ⟨#[116, 48]⟩) (.string ⟨#[]⟩) (.slice (some ⟨w4.heap.size, 0, none⟩) 2 2) (.slice none 0 0) (.slice none 0 0)
  refine bodyPost_ret (v := .agg #[.int .i64 2, .string ⟨#[116, 48]⟩, .string ⟨#[]⟩, .slice (some ⟨w4.heap.size, 0, none⟩) 2 2, .slice none 0 0, .slice none 0 0]) (results_cell_row Try.results141 _ _ NB 128 _ (0, 0) _ rfl (((more_allocD _ _).block (blk_ltD HW)).trans HW) Try.underlying128 rfl (by kernel_rfl)) rfl ?_
  generalize (((((w4.setCell ⟨NB, 0, none⟩ (.int .i64 2)).setCell ⟨NB, 1, none⟩ (.string ⟨#[116, 48]⟩)).setCell ⟨NB, 2, none⟩ (.string ⟨#[]⟩)).setCell ⟨NB, 3, none⟩ (.slice (some ⟨w4.heap.size, 0, none⟩) 2 2)).setCell ⟨NB, 4, none⟩ (.slice none 0 0)).setCell ⟨NB, 5, none⟩ (.slice none 0 0) = W at *
  have hNew := alloc_last W (.cells #[.int .i64 t3.op, .string t3.name, .int .i64 t3.n, .slice ca3 t3.args.length cc3, .int .i64 t4.op, .string t4.name, .int .i64 t4.n, .slice ca4 t4.args.length cc4] 36)
  rw [hWs] at hNew
  have hM := more_allocD W (.cells #[.int .i64 t3.op, .string t3.name, .int .i64 t3.n, .slice ca3 t3.args.length cc3, .int .i64 t4.op, .string t4.name, .int .i64 t4.n, .slice ca4 t4.args.length cc4] 36)
  have hn1 := blk_ltD HN1.out
  have hs3 := HG4.out.size
  have hk := HR3.out.mono2 (S' := fun b => w.heap.size ≤ b) (w' := W.alloc (.cells #[.int .i64 t3.op, .string t3.name, .int .i64 t3.n, .slice ca3 t3.args.length cc3, .int .i64 t4.op, .string t4.name, .int .i64 t4.n, .slice ca4 t4.args.length cc4] 36)) (fun b off v hb hc => ⟨by have := hb.1; have := HNB.out; omega, hM.cell (by
    rw [World.cell?_of_block (w := w4) (a := ⟨b, off, none⟩) (hWg.block b (World.block_lt_of_cell? w4 ⟨b, off, none⟩ hc) (fun e => by have := hb.1; injection e with e; omega))]; exact hc)⟩) (Nat.le_refl _)
  have hk4 := HRp4.out.mono2 (S' := fun b => w.heap.size ≤ b) (w' := W.alloc (.cells #[.int .i64 t3.op, .string t3.name, .int .i64 t3.n, .slice ca3 t3.args.length cc3, .int .i64 t4.op, .string t4.name, .int .i64 t4.n, .slice ca4 t4.args.length cc4] 36)) (fun b off v hb hc => ⟨by have h9 : w3.heap.size ≤ b := hb; have := HNB.out; have := blk_ltD HN3.out; omega, hM.cell (by
    have h9 : w3.heap.size ≤ b := hb
    have h8 := blk_ltD HN3.out
    rw [World.cell?_of_block (w := w4) (a := ⟨b, off, none⟩) (hWg.block b (World.block_lt_of_cell? w4 ⟨b, off, none⟩ hc) (fun e => by injection e with e; omega))]; exact hc)⟩) (Nat.le_refl _)
  obtain ⟨k1, k2⟩ := fin_grown HNB.out HLT.out HG4.out HM4.out (grow_trans hWg (grow_more hM))
  exact ⟨[.int .i64 2, .string ⟨#[116, 48]⟩, .string ⟨#[]⟩, .slice (some ⟨w4.heap.size, 0, none⟩) 2 2, .slice none 0 0, .slice none 0 0], l4, rfl, ⟨2, _, _, _, _, _, [t3, t4], rfl, repUp (rep2D hNew hs3 HFl.out hk HFl4.out hk4) (by omega), (fun x hx => by
    rcases List.mem_cons.1 hx with e | hx
    · rw [e]; exact HFO.out
    · rw [List.mem_singleton] at hx; rw [hx]; exact HFO4.out), (fun x hx => by
    rcases List.mem_cons.1 hx with e | hx
    · rw [e]; exact HFl.out
    · rw [List.mem_singleton] at hx; rw [hx]; exact HFl4.out), ⟨_, _, _, rfl⟩, ⟨_, _, _, rfl⟩, by simp⟩, k1, k2⟩
end Go.Proofs.Ytekhoanjpnjaeaa

/- (*maker).stmt (141): the arm k = 12, first way. -/
namespace Go.Proofs.Ytekhoanjpnjaeaa
open Go.RowKit
set_option maxRecDepth 100000 in
set_option maxHeartbeats 2000000 in
theorem stmt12_any (MB : Nat) (d : MkD) (prm left dp : Int) (l : List Int) (w : World) (h : MkAt w MB d prm left l) (hd : d.Ok prm) (hz : (nextB l 3).1 = 0) :
    Calls Try.prog 141 #[.pointer (some ⟨MB, 0, none⟩), .int .i64 12, .int .i64 dp] w fun e w' => ∃ cs l', e = .returned (.agg cs.toArray) ∧ StmtC (fun b => w.heap.size ≤ b) w' cs ∧ MkAt w' MB d prm left l' ∧ w.grownBy w' (some MB) := by
  have HD := Lib.hid hd
  have HA := Lib.hid (more_allocD w (.cells #[.int .i64 0, .string ⟨#[]⟩, .string ⟨#[]⟩, .slice none 0 0, .slice none 0 0, .slice none 0 0] 128))
  have HN1 := Lib.hid (alloc_last w (.cells #[.int .i64 0, .string ⟨#[]⟩, .string ⟨#[]⟩, .slice none 0 0, .slice none 0 0, .slice none 0 0] 128))
  have HM1 := Lib.hid (h.more HA.out)
  have HLT := Lib.hid h.lt
  clear h hd
  obtain ⟨NB, HNB⟩ : ∃ B, Hid (B = w.heap.size) := ⟨_, Lib.hid rfl⟩
  rw [← HNB.out] at HN1
  have c1 := HM1.out.c0.2.1
  have hbm := cell_lt c1
  have hne : NB ≠ MB := by have := HNB.out; have := HLT.out; omega
  have HCI := Lib.hid (next_any MB d prm left 3 l _ HM1.out (by omega) (by omega))
  rw [hz] at HCI
  go_enter Try.func141, Try.ntmps141
  go_wp2_with fail
  rw [← HNB.out]
  generalize w.alloc (.cells #[.int .i64 0, .string ⟨#[]⟩, .string ⟨#[]⟩, .slice none 0 0, .slice none 0 0, .slice none 0 0] 128) = w1 at *
  refine HCI.out.mono ?_
  rintro e w3 ⟨rfl, hm2, hg2⟩
  have HM3 := Lib.hid hm2
  have HG3 := Lib.hid (grow_trans (grow_more HA.out) hg2)
  have HN3 := Lib.hid ((hg2.block NB (blk_ltD HN1.out) (fun e => by have := HLT.out; have := HNB.out; injection e with e; omega)).trans HN1.out)
  clear hm2 hg2 HCI c1 hbm
  have n0 : w3.cell? ⟨NB, 0, none⟩ = some (.int .i64 0) := by simp [World.cell?, HN3.out]
  have f0 := thaw HN3.out 0
  have n1 : w3.cell? ⟨NB, 1, none⟩ = some (.string ⟨#[]⟩) := by simp [World.cell?, HN3.out]
  have f1 := thaw HN3.out 1
  have n2 : w3.cell? ⟨NB, 2, none⟩ = some (.string ⟨#[]⟩) := by simp [World.cell?, HN3.out]
  have f2 := thaw HN3.out 2
  have n3 : w3.cell? ⟨NB, 3, none⟩ = some (.slice none 0 0) := by simp [World.cell?, HN3.out]
  have f3 := thaw HN3.out 3
  have n4 : w3.cell? ⟨NB, 4, none⟩ = some (.slice none 0 0) := by simp [World.cell?, HN3.out]
  have f4 := thaw HN3.out 4
  have n5 : w3.cell? ⟨NB, 5, none⟩ = some (.slice none 0 0) := by simp [World.cell?, HN3.out]
  have f5 := thaw HN3.out 5
  have hbn := cell_lt n0
  go_wp2_with fail
  have HW := set6D HN3.out (.int .i64 10) (.string ⟨#[]⟩) (.string ⟨#[]⟩) (.slice none 0 0) (.slice none 0 0) (.slice none 0 0)
  refine bodyPost_ret (v := .agg #[.int .i64 10, .string ⟨#[]⟩, .string ⟨#[]⟩, .slice none 0 0, .slice none 0 0, .slice none 0 0]) (results_cell_row Try.results141 _ _ NB 128 _ (0, 0) _ rfl HW Try.underlying128 rfl (by kernel_rfl)) rfl ?_
  obtain ⟨k1, k2⟩ := fin_grown HNB.out HLT.out HG3.out HM3.out (set6_grown w3 NB (.int .i64 10) (.string ⟨#[]⟩) (.string ⟨#[]⟩) (.slice none 0 0) (.slice none 0 0) (.slice none 0 0))
  exact ⟨[.int .i64 10, .string ⟨#[]⟩, .string ⟨#[]⟩, .slice none 0 0, .slice none 0 0, .slice none 0 0], _, rfl, ⟨10, _, _, _, _, _, [], rfl, RepS.nil _ _ _, (fun _ hx => absurd hx List.not_mem_nil), (fun _ hx => absurd hx List.not_mem_nil), ⟨_, _, _, rfl⟩, ⟨_, _, _, rfl⟩, by simp⟩, k1, k2⟩
end Go.Proofs.Ytekhoanjpnjaeaa

/- (*maker).stmt (141): the last arm, k = 0. -/
namespace Go.Proofs.Ytekhoanjpnjaeaa
open Go.RowKit
set_option maxRecDepth 100000 in
set_option maxHeartbeats 2000000 in
theorem stmt0_any (MB : Nat) (d : MkD) (prm left dp : Int) (l : List Int) (w : World) (h : MkAt w MB d prm left l) (hd : d.Ok prm) :
    Calls Try.prog 141 #[.pointer (some ⟨MB, 0, none⟩), .int .i64 0, .int .i64 dp] w fun e w' => ∃ cs l', e = .returned (.agg cs.toArray) ∧ StmtC (fun b => w.heap.size ≤ b) w' cs ∧ MkAt w' MB d prm left l' ∧ w.grownBy w' (some MB) := by
  have HD := Lib.hid hd
  have HA := Lib.hid (more_allocD w (.cells #[.int .i64 0, .string ⟨#[]⟩, .string ⟨#[]⟩, .slice none 0 0, .slice none 0 0, .slice none 0 0] 128))
  have HN1 := Lib.hid (alloc_last w (.cells #[.int .i64 0, .string ⟨#[]⟩, .string ⟨#[]⟩, .slice none 0 0, .slice none 0 0, .slice none 0 0] 128))
  have HM1 := Lib.hid (h.more HA.out)
  have HLT := Lib.hid h.lt
  clear h hd
  obtain ⟨NB, HNB⟩ : ∃ B, Hid (B = w.heap.size) := ⟨_, Lib.hid rfl⟩
  rw [← HNB.out] at HN1
  have c1 := HM1.out.c0.2.1
  have hbm := cell_lt c1
  have hne : NB ≠ MB := by have := HNB.out; have := HLT.out; omega
  go_enter Try.func141, Try.ntmps141
  go_wp2_with fail
  rw [← HNB.out]
  generalize w.alloc (.cells #[.int .i64 0, .string ⟨#[]⟩, .string ⟨#[]⟩, .slice none 0 0, .slice none 0 0, .slice none 0 0] 128) = w1 at *
  have HCI := Lib.hid (integer_any MB d prm left l w1 HM1.out HD.out.i0 HD.out.i1)
  obtain ⟨nm, HNM⟩ : ∃ s, Hid (nmB 120 (nextB l d.ints).1.toNat = s) := ⟨_, Lib.hid rfl⟩
  obtain ⟨l2, HL2⟩ : ∃ s, Hid ((nextB l d.ints).2 = s) := ⟨_, Lib.hid rfl⟩
  rw [HNM.out, HL2.out] at HCI
  refine HCI.out.mono ?_
  rintro e w2 ⟨rfl, hm2, hg2⟩
  have HM2 := Lib.hid hm2
  have HG2 := Lib.hid (grow_trans (grow_more HA.out) hg2)
  have HN2 := Lib.hid ((hg2.block NB (blk_ltD HN1.out) (fun e => by have := HLT.out; have := HNB.out; injection e with e; omega)).trans HN1.out)
  clear hm2 hg2 HCI c1 hbm
  go_wp2_with fail
  have HCR := Lib.hid (number_any 4 MB d prm left 0 l2 w2 HM2.out HD.out (by omega) (by omega) (by omega))
  obtain ⟨t3, l3, hR⟩ : ∃ t r, numF d prm 4 0 l2 = (t, r) := ⟨_, _, rfl⟩
  have HFO := Lib.hid (show t3.formed = true by have := numF_formed d prm 4 0 l2; rw [hR] at this; exact this)
  rw [hR] at HCR
  clear hR
  refine HCR.out.mono ?_
  rintro e w3 ⟨c3, rfl, hf, hr, hmk, hg⟩
  have HFl := Lib.hid hf
  have HRp := Lib.hid hr
  have HM3 := Lib.hid hmk
  have HG3 := Lib.hid (grow_trans HG2.out hg)
  have HN3 := Lib.hid ((hg.block NB (blk_ltD HN2.out) (fun e => by have := HLT.out; have := HNB.out; injection e with e; omega)).trans HN2.out)
  obtain ⟨ca3, cc3, hsh⟩ := hr.shape
  dsimp only at hsh
  subst hsh
  clear hf hr hmk hg HCR
  unfold agg
  have n0 : w3.cell? ⟨NB, 0, none⟩ = some (.int .i64 0) := by simp [World.cell?, HN3.out]
  have n1 : w3.cell? ⟨NB, 1, none⟩ = some (.string ⟨#[]⟩) := by simp [World.cell?, HN3.out]
  have n2 : w3.cell? ⟨NB, 2, none⟩ = some (.string ⟨#[]⟩) := by simp [World.cell?, HN3.out]
  have n3 : w3.cell? ⟨NB, 3, none⟩ = some (.slice none 0 0) := by simp [World.cell?, HN3.out]
  have n4 : w3.cell? ⟨NB, 4, none⟩ = some (.slice none 0 0) := by simp [World.cell?, HN3.out]
  have n5 : w3.cell? ⟨NB, 5, none⟩ = some (.slice none 0 0) := by simp [World.cell?, HN3.out]
  have hbn := cell_lt n0
  have f0 := thaw HN3.out 0
  have f1 := thaw HN3.out 1
  have f2 := thaw HN3.out 2
  have f3 := thaw HN3.out 3
  have f4 := thaw HN3.out 4
  have f5 := thaw HN3.out 5
  go_wp2_with fail
  have HW := set6D HN3.out (.int .i64 1) (.string nm) (.string ⟨#[]⟩) (.slice (some ⟨w3.heap.size, 0, none⟩) 1 1) (.slice none 0 0) (.slice none 0 0)
  have hWg := set6_grown w3 NB (.int .i64 1) (.string nm) (.string ⟨#[]⟩) (.slice (some ⟨w3.heap.size, 0, none⟩) 1 1) (.slice none 0 0) (.slice none 0 0)
  have hWs := set6_sizeD w3 NB (.int .i64 1) (.string nm) (.string ⟨#[]⟩) (.slice (some ⟨w3.heap.size, 0, none⟩) 1 1) (.slice none 0 0) (.slice none 0 0)
  refine bodyPost_ret (v := .agg #[.int .i64 1, .string nm, .string ⟨#[]⟩, .slice (some ⟨w3.heap.size, 0, none⟩) 1 1, .slice none 0 0, .slice none 0 0]) (results_cell_row Try.results141 _ _ NB 128 _ (0, 0) _ rfl (((more_allocD _ _).block (blk_ltD HW)).trans HW) Try.underlying128 rfl (by kernel_rfl)) rfl ?_
  generalize (((((w3.setCell ⟨NB, 0, none⟩ (.int .i64 1)).setCell ⟨NB, 1, none⟩ (.string nm)).setCell ⟨NB, 2, none⟩ (.string ⟨#[]⟩)).setCell ⟨NB, 3, none⟩ (.slice (some ⟨w3.heap.size, 0, none⟩) 1 1)).setCell ⟨NB, 4, none⟩ (.slice none 0 0)).setCell ⟨NB, 5, none⟩ (.slice none 0 0) = W at *
  have hNew := alloc_last W (.cells #[.int .i64 t3.op, .string t3.name, .int .i64 t3.n, .slice ca3 t3.args.length cc3] 36)
  rw [hWs] at hNew
  have hM := more_allocD W (.cells #[.int .i64 t3.op, .string t3.name, .int .i64 t3.n, .slice ca3 t3.args.length cc3] 36)
  have hn1 := blk_ltD HN2.out
  have hs3 := HG3.out.size
  have hk := HRp.out.mono2 (S' := fun b => w.heap.size ≤ b) (w' := W.alloc (.cells #[.int .i64 t3.op, .string t3.name, .int .i64 t3.n, .slice ca3 t3.args.length cc3] 36)) (fun b off v hb hc => ⟨by have h9 : w2.heap.size ≤ b := hb; have := HNB.out; omega, hM.cell (by
    have h9 : w2.heap.size ≤ b := hb
    rw [World.cell?_of_block (w := w3) (a := ⟨b, off, none⟩) (hWg.block b (World.block_lt_of_cell? w3 ⟨b, off, none⟩ hc) (fun e => by injection e with e; omega))]; exact hc)⟩) (Nat.le_refl _)
  obtain ⟨k1, k2⟩ := fin_grown HNB.out HLT.out HG3.out HM3.out (grow_trans hWg (grow_more hM))
  exact ⟨[.int .i64 1, .string nm, .string ⟨#[]⟩, .slice (some ⟨w3.heap.size, 0, none⟩) 1 1, .slice none 0 0, .slice none 0 0], l3, rfl, ⟨1, _, _, _, _, _, [t3], rfl, repUp (rep1D hNew hs3 HFl.out hk) (by omega), (fun x hx => by rw [List.mem_singleton] at hx; rw [hx]; exact HFO.out), (fun x hx => by rw [List.mem_singleton] at hx; rw [hx]; exact HFl.out), ⟨_, _, _, rfl⟩, ⟨_, _, _, rfl⟩, by simp⟩, k1, k2⟩
end Go.Proofs.Ytekhoanjpnjaeaa

