/- Texts RefB, laid together. -/
import Derived.Test.YtemeppfikpafbaaGreatDoorBi
import Derived.Test.YtemeppfikpafbaaGreatDoorBk
import Derived.Test.YtemeppfikpafbaaGreatDoorBm
/- rootcauseref50.Bytes (8): the encoding of any certificate. -/
namespace Go.Proofs.YtemeppfikpafbaaGreatDoor
open Go.RowKit
theorem info42 : (Tryz.prog.info? 42).map (·.size) = some 40 := by kernel_rfl
theorem wpList_load42 {ops : Array Oper} {rest : List Oper} {o : Oper} {a : Act} {w : World} {Q : Exit → Act → World → Prop} (hgd : o.guard = none) (x : Operand) (ho : o.op = .load 42 x) (g : Nat) (hx : a.eval x = .pointer (some ⟨g, 0, none⟩)) (cs : Array Value) (hg : w.heap[g]? = some (.cells cs 42)) (hs : cs.size = 40)
    (h : wpList Tryz.prog ops Q rest (a.put o.dst (.agg cs)) w) : wpList Tryz.prog ops Q (o :: rest) a w :=
  wpList_plain hgd fun _ hK => wp_load_row 42 x ho g hx 42 cs (0, 0) _ hg Tryz.underlying42 rfl (by rw [hs]; exact info42) (hK _ _ h)
/-- Bytes that are being laid, beside the specification's certificate in block N. -/
structure PR (N : Nat) (w : World) (arr : Array Value) (W : World) (O : List Int) (v : Value) : Prop where
  own : W.ownsRow (N + 1) 5 1 v O.length (bV O)
  low : Below N w W
  box : W.heap[N]? = some (.cells arr 42)
theorem PR.ns {N : Nat} {w : World} {arr : Array Value} {W : World} {O : List Int} {v : Value} (h : PR N w arr W O v) : N + 1 ≤ W.heap.size := blk_lt h.box
theorem PR.more {N : Nat} {w : World} {arr : Array Value} {W W' : World} {O : List Int} {v : Value} (h : PR N w arr W O v) (hm : More W W') : PR N w arr W' O v :=
  ⟨owns_keep h.own (fun z hz => hm.block (h.own.lt z hz).2), h.low.trans (hm.below.mono (by have := h.ns; omega)), (hm.block (blk_lt h.box)).trans h.box⟩
theorem PR.grow {N : Nat} {w : World} {arr : Array Value} {W W' : World} {O Q : List Int} {v v' : Value} (h : PR N w arr W O v) (ho : W'.ownsRow (N + 1) 5 1 v' Q.length (bV Q)) (hg : W.grownBy W' v.ownBlock) : PR N w arr W' Q v' :=
  ⟨ho, h.low.grown hg (by have := h.ns; omega) (fun z hz => by have := (h.own.lt z hz).1; omega), (hg.block N (blk_lt h.box) (fun e => by have := (h.own.lt N e.symm).1; omega)).trans h.box⟩
/-- A block of other things stays as the bytes grow. -/
theorem PR.keep {N : Nat} {w : World} {arr : Array Value} {W W' : World} {O : List Int} {v : Value} (h : PR N w arr W O v) {XB : Nat} {c : Array Value} {t : TypeId} {fr : Nat × Nat} (hx : W.heap[XB]? = some (.cells c t fr)) (ht : t ≠ 5) (hg : W.grownBy W' v.ownBlock) : W'.heap[XB]? = some (.cells c t fr) := by
  refine (hg.block XB (blk_lt hx) (fun e => ?_)).trans hx
  rcases h.own.2 with ⟨rfl, _⟩ | ⟨g, cap, cur, rfl, _, hgk, _⟩
  · cases e
  · have e1 : XB = g := by injection e
    rw [← e1, hx] at hgk
    injection hgk with hgk
    injection hgk with _ h2 _
    exact ht h2
/-- A block that came behind the bytes stays as they grow. -/
theorem PR.keepB {N : Nat} {w : World} {arr : Array Value} {W W' : World} {O : List Int} {v : Value} (_h : PR N w arr W O v) {XB : Nat} {o : Obj} (hx : W.heap[XB]? = some o) (hne : ∀ z, v.ownBlock = some z → z < XB) (hg : W.grownBy W' v.ownBlock) : W'.heap[XB]? = some o := by
  refine (hg.block XB (blk_lt hx) (fun e => ?_)).trans hx
  have := hne XB e.symm
  omega
theorem bytes_blk {W : World} {QB qc : Nat} {q : ByteArray} (h : W.heap[QB]? = some (.cells (bytesRow q qc) 5 ((bytesRow q qc).size, (bytesRow q qc).size + 1))) (hc : q.size ≤ qc) : Row anyB W 1 q.size (.slice (some ⟨QB, 0, none⟩) q.size qc) (bV (qB q)) := by
  refine ⟨by rw [bV_length, qB_len, Nat.mul_one], _, _, rfl, hc, fun _ => ⟨QB, 0, rfl, trivial, fun j u hj => ?_⟩⟩
  have hj2 : ((qB q).map (Value.int .u8))[j]? = some u := hj
  unfold qB at hj2
  rw [List.map_map, List.getElem?_map, Option.map_eq_some_iff] at hj2
  obtain ⟨x, h1, rfl⟩ := hj2
  rw [Nat.zero_add, cell_of_row W QB j _ 5 _ h]
  unfold bytesRow
  rw [Array.getElem?_append_left (by rw [Array.size_map]; rw [Array.getElem?_toList] at h1; exact (Array.getElem?_eq_some_iff.1 h1).1), Array.getElem?_map, ← Array.getElem?_toList, h1]
  rfl
theorem RefAt.more {w w' : World} {arr : Array Value} {c : Cert} {kv : Value} (h : RefAt w arr c kv) (hm : More w w') : RefAt w' arr c kv :=
  ⟨h.q, h.hor, h.k35, h.uv, h.hv, h.wit, h.spl, h.keys.below hm.below, h.und.below hm.below, h.hol.below hm.below, fun p hp => (h.each p hp).more hm, h.ulen, h.hlen, h.slen, h.asize, by
    obtain ⟨bv, h1, h2⟩ := h.bys
    exact ⟨bv, h1, h2.more hm⟩⟩
set_option maxRecDepth 100000 in
set_option maxHeartbeats 1000000 in
theorem refB8_bad (arr : Array Value) (c : Cert) (kv : Value) (w : World) (hc : RefAt w arr c kv) (hk : ¬ Chk c 0) : Calls Tryz.prog 8 #[.agg arr] w fun e w' => e = .returned (.slice none 0 0) ∧ Below w.heap.size w w' := by
  have HSZ := Lib.hid hc.asize
  obtain ⟨N, HN⟩ : ∃ N, Hid (N = w.heap.size) := ⟨_, Lib.hid rfl⟩
  have HB1 := Lib.hid (alloc_last w (.cells arr 42))
  have HM1 := Lib.hid (more_alloc w (.cells arr 42))
  rw [← HN.out] at HB1 ⊢
  have HC50 := Lib.hid (fun W (hW : More w W) => check51_any arr c kv W (hc.more hW))
  go_enter Tryz.func8, Tryz.ntmps8
  go_upto_region 1 with (fail)
  rw [← HN.out]
  generalize w.alloc (.cells arr 42) = w1 at *
  go_wp2_with (refine wpList_load42 rfl _ rfl N rfl arr HB1.out HSZ.out ?_)
  refine (HC50.out w1 HM1.out).mono ?_
  rintro e w2 ⟨⟨E, rfl, hE⟩, hb2⟩
  have hne : (E != 0) = true := by rw [bne_iff_ne]; rintro rfl; exact hk hE
  have HM2 := Lib.hid (more_trans HM1.out (more_of hb2))
  clear hb2 hE
  go_wp2_with fail
  go_ret
  exact ⟨rfl, by rw [HN.out]; exact HM2.out.below⟩
set_option maxRecDepth 100000 in
set_option maxHeartbeats 4000000 in
theorem refB8_ok (arr : Array Value) (c : Cert) (kv : Value) (fl : List Int) (w : World) (hc : RefAt w arr c kv) (hfl : fl.length = 32) (hfa : ∀ (j : Nat) (n : Int), fl[j]? = some n → arr[j]? = some (.int .u8 n)) (hok : ∀ p ∈ c.S, CgOk p.2) (hi : ∀ p ∈ c.S, ∀ n ∈ p.2.l, In64 n) (hh : ∀ p ∈ c.H, ∀ a ∈ p.2.al, ∀ n ∈ a.2.l, In64 n) (hk : Chk c 0) :
    Calls Tryz.prog 8 #[.agg arr] w fun e w' => (∃ v, e = .returned v ∧ w'.ownsRow w.heap.size 5 1 v (encCt fl c).length (bV (encCt fl c))) ∧ Below w.heap.size w w' := by
  obtain ⟨q, hor, sv, Sl, uv, U, hv, H, wit, spl⟩ := c
  dsimp only at hh hi hok
  have HC := Lib.hid hc
  have HK := Lib.hid hk
  obtain ⟨k1, k2, k3, ⟨_, k4⟩, k5⟩ := chk0 hk
  unfold R2 at k2; unfold R1 at k3; unfold HS at k5
  dsimp only at k1 k2 k3 k4 k5
  obtain ⟨h32, h33, _, h36, h37, h38, h39, _, hund, hhol, heach, hul, hhl, hsl, hsz, bv, h34, hby⟩ := hc
  dsimp only at *
  obtain ⟨hn, hhn⟩ : ∃ n : Nat, hor = n := ⟨hor.toNat, by omega⟩
  obtain ⟨wn, hwn⟩ : ∃ n : Nat, wit = n := ⟨wit.toNat, by omega⟩
  obtain ⟨sn, hsn⟩ : ∃ n : Nat, spl = n := ⟨spl.toNat, by omega⟩
  subst hhn hwn hsn
  obtain ⟨ua, uc, rfl, _⟩ := hund.shape
  obtain ⟨ha, hcp, rfl, _⟩ := hhol.shape
  have HUND := Lib.hid hund; have HHOL := Lib.hid hhol; have HEACH := Lib.hid heach; have HHO := Lib.hid k4; have HHI := Lib.hid hh; clear hund hhol heach k4 hh hk
  have HKO := Lib.hid (show ∀ k ∈ U, KeyOk k from fun k hm => key_of_hs hok (k5 k hm)); clear k5
  have HSL := Lib.hid (encS_len hsl hok hi); clear hi hok
  have HSM := Lib.hid (show hn ≤ 200 ∧ wn ≤ 2 ∧ sn ≤ 200 ∧ q.size ≤ 2000 ∧ U.length ≤ 3 ∧ H.length ≤ 2 by omega); clear k1 k2 k3 hul hhl hsl
  obtain ⟨ES, HES⟩ : ∃ ES, Hid (encS (Sl.map (·.2)) = ES) := ⟨_, Lib.hid rfl⟩
  rw [HES.out] at hby HSL
  obtain ⟨ba, bc, rfl, _⟩ := hby.row.shape
  have HBY := Lib.hid hby; clear hby
  have HSZ := Lib.hid hsz; clear hsz
  have H32 := Lib.hid h32; clear h32
  have H33 := Lib.hid h33; clear h33
  have H34 := Lib.hid h34; clear h34
  have H36 := Lib.hid h36; clear h36
  have H37 := Lib.hid h37; clear h37
  have H38 := Lib.hid h38; clear h38
  have H39 := Lib.hid h39; clear h39
  have h32 := H32; clear H32
  have h33 := H33; clear H33
  have h34 := H34; clear H34
  have h36 := H36; clear H36
  have h37 := H37; clear H37
  have h38 := H38; clear H38
  have h39 := H39; clear H39
  obtain ⟨R, HR⟩ : ∃ R, Hid (R = encCt fl ⟨q, hn, sv, Sl, .slice ua U.length uc, U, .slice ha H.length hcp, H, wn, sn⟩) := ⟨_, Lib.hid rfl⟩
  rw [← HR.out]
  obtain ⟨i0, hi0, hz0, hz1, hz2⟩ := info_parts infoB
  obtain ⟨N, HN⟩ : ∃ N, Hid (N = w.heap.size) := ⟨_, Lib.hid rfl⟩
  have HB1 := Lib.hid (alloc_last w (.cells arr 42))
  have HM1 := Lib.hid (more_alloc w (.cells arr 42))
  rw [← HN.out] at HB1 ⊢
  go_enter Tryz.func8, Tryz.ntmps8
  go_upto_region 1 with (fail)
  rw [← HN.out]
  generalize w.alloc (.cells arr 42) = w1 at *
  have HC50 := Lib.hid (check51_any arr _ kv w1 (HC.out.more HM1.out))
  go_wp2_with (refine wpList_load42 rfl _ rfl N rfl arr HB1.out HSZ.out ?_)
  refine HC50.out.mono ?_
  rintro e w2 ⟨⟨E, rfl, hE⟩, hb2⟩
  obtain rfl : E = 0 := hE.same HK.out
  clear hE HC50
  have HM2 := Lib.hid (more_trans HM1.out (more_of hb2))
  have HB2 := Lib.hid (((more_of hb2).block (blk_lt HB1.out)).trans HB1.out)
  clear hb2
  have HO2 := Lib.hid (World.ownsRow_lit (base := N + 1) (e := 5) (size := 1) w2 #[.int .u8 1] 1 (blk_lt HB2.out) (by unfold maxLen; omega) rfl)
  have HM3 := Lib.hid (more_alloc w2 (.cells #[.int .u8 1] 5))
  have HPB0 := Lib.hid (show PR N w arr (w2.alloc (.cells #[.int .u8 1] 5)) [1] (.slice (some ⟨w2.heap.size, 0, none⟩) 1 1) from ⟨HO2.out, by rw [HN.out]; exact (more_trans HM2.out HM3.out).below, (HM3.out.block (blk_lt HB2.out)).trans HB2.out⟩)
  have HFL := Lib.hid (show Row anyB (w2.alloc (.cells #[.int .u8 1] 5)) 1 32 (.slice (some ⟨N, 0, none⟩) 32 32) (bV fl) from ⟨by rw [bV_length, hfl], _, _, rfl, Nat.le_refl _, fun _ => ⟨N, 0, rfl, trivial, fun j u hj => by
    have hj2 : (fl.map (Value.int .u8))[j]? = some u := hj
    rw [List.getElem?_map, Option.map_eq_some_iff] at hj2
    obtain ⟨n, h1, rfl⟩ := hj2
    rw [Nat.zero_add]
    exact cell_of_blk HPB0.out.box (hfa j n h1)⟩⟩)
  go_upto_region 4 with (at_builtin; refine wpList_append_rowC rfl _ _ 26 rfl (N + 1) 5 i0 _ 1 1 Tryz.underlying26 hi0 hz0 hz1 hz2 rfl (by omega) (.slice (some ⟨w2.heap.size, 0, none⟩) 1 1) 1 (bV [1]) rfl HPB0.out.own (.slice (some ⟨N, 0, none⟩) 32 32) 32 (bV fl) rfl HFL.out (fun n c e => by cases e) (bV_one fl) (by unfold maxLen; omega) (by omega) HPB0.out.ns ?_; intro v3 w3 hown3 hgrow3; obtain ⟨ga, gc, rfl, _⟩ := owns_shape hown3)
  have HPB := Lib.hid (HPB0.out.grow (Q := [1] ++ fl) (v' := .slice ga 33 gc) (by rw [List.length_append, hfl, bV_append]; exact hown3) hgrow3)
  clear hown3 hgrow3 HPB0 HFL HO2
  have hl0 : ([1] ++ fl : List Int).length = 33 := by rw [List.length_append, hfl]; rfl
  generalize hO : ([1] ++ fl : List Int) = O1 at *
  have HO1 := Lib.hid hO; clear hO
  have HL1 := Lib.hid hl0; clear hl0
  obtain ⟨w3, rfl⟩ : ∃ wz : World, wz = w3 := ⟨_, rfl⟩
  have n32 : w3.cell? ⟨N, 32, none⟩ = some (.string q) := cell_of_blk HPB.out.box h32.out
  have hbn := cell_lt n32
  obtain ⟨qn, HQN⟩ : ∃ qn, Hid (q.size = qn) := ⟨_, Lib.hid rfl⟩
  have hqb : qn ≤ 2000 := by have := HSM.out.2.2.2.1; have := HQN.out; omega
  have HPD := Lib.hid (HPB.out.more (more_drew w3))
  refine wp_region_held_drew (S := fun W => W.cell? ⟨N, 32, none⟩ = some (.string q)) (by kernel_rfl) n32 (fun hHeld => ?_)
  refine wpAnyH_take (i := 0) (v := ?_) (by simp only [List.getElem?_toArray, List.getElem?_cons_zero]; exact rfl) (by kernel_rfl) (by kernel_rfl) (by kernel_rfl) (by exact fun _ _ _ h => h) (Or.inl ⟨by kernel_rfl, ?_⟩) hHeld ?_
  rotate_left
  · intro w hSw
    (try dsimp only at hSw)
    first | (go_simp; done) | (go_simp; with_reducible rfl)
  (try simp only [Act.put, List.setIfInBounds_toArray, List.set_cons_zero, List.set_cons_succ])
  refine wpAnyH_take (i := 1) (v := ?_) (by simp only [List.getElem?_toArray, List.getElem?_cons_succ, List.getElem?_cons_zero]; exact rfl) (by kernel_rfl) (by kernel_rfl) (by kernel_rfl) (by exact fun _ _ _ h => h) (Or.inl ⟨by kernel_rfl, ?_⟩) hHeld ?_
  rotate_left
  · intro w hSw
    (try dsimp only at hSw)
    first | (go_simp; done) | (go_simp; with_reducible rfl)
  (try simp only [Act.put, List.setIfInBounds_toArray, List.set_cons_zero, List.set_cons_succ])
  refine wpAnyH_take (i := 2) (v := ?_) (by simp only [List.getElem?_toArray, List.getElem?_cons_succ, List.getElem?_cons_zero]; exact rfl) (by kernel_rfl) (by kernel_rfl) (by kernel_rfl) (by exact fun _ _ _ h => h) (Or.inl ⟨by kernel_rfl, ?_⟩) hHeld ?_
  rotate_left
  · intro w hSw
    (try dsimp only at hSw)
    first | (go_simp; done) | (go_simp; with_reducible rfl)
  (try simp only [Act.put, List.setIfInBounds_toArray, List.set_cons_zero, List.set_cons_succ])
  refine wpAnyH_take (i := 3) (v := ?_) (by simp only [List.getElem?_toArray, List.getElem?_cons_succ, List.getElem?_cons_zero]; exact rfl) (by kernel_rfl) (by kernel_rfl) (by kernel_rfl) (by exact fun _ _ _ h => h) (Or.inl ⟨by kernel_rfl, ?_⟩) hHeld ?_
  rotate_left
  · intro w hSw
    (try dsimp only at hSw)
    first | (go_simp; done) | (go_simp; with_reducible rfl)
  (try simp only [Act.put, List.setIfInBounds_toArray, List.set_cons_zero, List.set_cons_succ])
  refine wpAnyH_take (i := 5) (v := ?_) (by simp only [List.getElem?_toArray, List.getElem?_cons_succ, List.getElem?_cons_zero]; exact rfl) (by kernel_rfl) (by kernel_rfl) (by kernel_rfl) (by exact fun _ _ _ h => h) (Or.inl ⟨by kernel_rfl, ?_⟩) hHeld ?_
  rotate_left
  · intro w hSw
    (try dsimp only at hSw)
    first | (go_simp; done) | (go_simp; with_reducible rfl)
  (try simp only [Act.put, List.setIfInBounds_toArray, List.set_cons_zero, List.set_cons_succ])
  refine wpAnyH_take (i := 6) (v := ?_) (by simp only [List.getElem?_toArray, List.getElem?_cons_succ, List.getElem?_cons_zero]; exact rfl) (by kernel_rfl) (by kernel_rfl) (by kernel_rfl) (by exact fun _ _ _ h => h) (Or.inl ⟨by kernel_rfl, ?_⟩) hHeld ?_
  rotate_left
  · intro w hSw
    (try dsimp only at hSw)
    first | (go_simp; done) | (go_simp; with_reducible rfl)
  (try simp only [Act.put, List.setIfInBounds_toArray, List.set_cons_zero, List.set_cons_succ])
  try rw [HQN.out]
  refine wpAnyH_ready (rs := [4, 7]) (by kernel_rfl) (by simp) ?_
  refine AllReadyH.cons (by simp only [List.getElem?_toArray, List.getElem?_cons_succ, List.getElem?_cons_zero]; exact rfl) (fun K hK => ?_) (AllReadyH.cons (by simp only [List.getElem?_toArray, List.getElem?_cons_succ, List.getElem?_cons_zero]; exact rfl) (fun K hK => ?_) AllReadyH.nil)
  · clear n32 hbn
    have HCB := Lib.hid (put24_any O1 _ qn (N + 1) w3.drew (by omega) (by have := HL1.out; omega) HPD.out.ns HPD.out.own)
    rw [if_pos (by kernel_rfl)]
    go_simp
    refine HCB.out.mono ?_
    rintro e w4 ⟨_, v2, rfl, ho2, hg2⟩
    have HPB2 := Lib.hid (HPD.out.grow ho2 hg2)
    obtain ⟨va2, vc2, rfl, _⟩ := owns_shape ho2
    clear ho2 hg2 HCB
    have HL2 := Lib.hid (show (O1 ++ encU qn).length ≤ 43 from by simp only [List.length_append]; have := HL1.out; have := encU_len qn (by omega); omega)
    generalize hO2 : O1 ++ encU qn = O2 at *
    have HO2 := Lib.hid hO2; clear hO2
    have K2 := cell_of_blk HPB2.out.box h32.out
    try go_wp2_with fail
    refine hK.out _ _ K2 (fun hHeld => ?_)
    clear hK K
    (try simp only [Act.put, List.setIfInBounds_toArray, List.set_cons_zero, List.set_cons_succ])
    refine wpAnyH_ready (rs := [7]) (by kernel_rfl) (by simp) ?_
    refine AllReadyH.cons (by simp only [List.getElem?_toArray, List.getElem?_cons_succ, List.getElem?_cons_zero]; exact rfl) (fun K hK => ?_) AllReadyH.nil
    have hcv := run_bytes_of_string (P := Tryz.prog) w4 9 26 5 q Tryz.underlying9 Tryz.underlying26 Tryz.underlying5
    obtain ⟨qc, HQC⟩ : ∃ qc, Hid (grownCap w4 q.size 0 5 = qc) := ⟨_, Lib.hid rfl⟩
    rw [HQC.out] at hcv
    have HQG := Lib.hid (show q.size ≤ qc by rw [← HQC.out]; exact grownCap_ge _ _ _ _)
    have HQM := Lib.hid (show More w4 (w4.drew.alloc (.cells (bytesRow q qc) 5 ((bytesRow q qc).size, (bytesRow q qc).size + 1))) from more_trans (more_drew _) (more_alloc _ _))
    have HQA := Lib.hid (alloc_last w4.drew (.cells (bytesRow q qc) 5 ((bytesRow q qc).size, (bytesRow q qc).size + 1)))
    have hdz : w4.drew.heap.size = w4.heap.size := rfl
    rw [hdz] at HQA
    clear hdz
    generalize w4.drew.alloc (.cells (bytesRow q qc) 5 ((bytesRow q qc).size, (bytesRow q qc).size + 1)) = w5x at *
    have HQE := Lib.hid (show ∀ z, (.slice va2 O2.length vc2 : Value).ownBlock = some z → z < w4.heap.size from fun z hz => (HPB2.out.own.lt z hz).2)
    generalize w4.heap.size = QB at *
    have HPB3 := Lib.hid (HPB2.out.more HQM.out)
    rw [if_pos (by kernel_rfl)]
    go_simp
    try rw [HQN.out]
    have K3 := cell_of_blk HPB3.out.box h32.out
    refine hK.out _ _ K3 (fun hHeld => ?_)
    clear hK K hcv HQE HPB2
    (try simp only [Act.put, List.setIfInBounds_toArray, List.set_cons_zero, List.set_cons_succ])
    have HRW := Lib.hid (bytes_blk HQA.out HQG.out)
    rw [HQN.out] at HRW
    refine wpAnyH_ready (rs := [8]) (by kernel_rfl) (by simp) ?_
    refine AllReadyH.cons (by simp only [List.getElem?_toArray, List.getElem?_cons_succ, List.getElem?_cons_zero]; exact rfl) (fun K hK => ?_) AllReadyH.nil
    refine step_append_rowC rfl _ _ 26 rfl (N + 1) 5 i0 _ 1 1 Tryz.underlying26 hi0 hz0 hz1 hz2 rfl (by omega) _ _ _ rfl HPB3.out.own _ qn _ rfl HRW.out (fun n c e => by cases e) (bV_one _) (by unfold maxLen; have := HL2.out; omega) (by have := HL2.out; omega) HPB3.out.ns (fun v5 w5 hown5 hgrow5 => ?_)
    obtain ⟨va5, vc5, rfl, _⟩ := owns_shape hown5
    have HPB5 := Lib.hid (HPB3.out.grow (Q := O2 ++ qB q) (v' := .slice va5 (O2.length + qn) vc5) (by rw [List.length_append, qB_len, HQN.out, bV_append]; exact hown5) hgrow5)
    clear hown5 hgrow5 HRW HQA
    have hl5 : (O2 ++ qB q).length = O2.length + qn := by rw [List.length_append, qB_len, HQN.out]
    rw [← hl5] at HPB5 ⊢
    have HL5 := Lib.hid (show (O2 ++ qB q).length ≤ 2043 by have := HL2.out; omega)
    clear hl5
    generalize hO5 : O2 ++ qB q = O5 at *
    have HO5 := Lib.hid hO5; clear hO5
    have K5 := cell_of_blk HPB5.out.box h32.out
    refine hK.out _ _ K5 (fun hHeld => ?_)
    clear hK K
    (try simp only [Act.put, List.setIfInBounds_toArray, List.set_cons_zero, List.set_cons_succ])
    refine wpAnyH_take (i := 9) (v := ?_) (by simp only [List.getElem?_toArray, List.getElem?_cons_succ, List.getElem?_cons_zero]; exact rfl) (by kernel_rfl) (by kernel_rfl) (by kernel_rfl) (by exact fun _ _ _ h => h) (Or.inl ⟨by kernel_rfl, ?_⟩) hHeld ?_
    rotate_left
    · intro w hSw
      (try dsimp only at hSw)
      first | (go_simp; done) | (go_simp; with_reducible rfl)
    (try simp only [Act.put, List.setIfInBounds_toArray, List.set_cons_zero, List.set_cons_succ])
    refine wpAnyH_done (by kernel_rfl) ?_ _
    clear HPB3 HPD HPB HQM HQC
    have n33 : w5.cell? ⟨N, 33, none⟩ = some (.int .i64 hn) := cell_of_blk HPB5.out.box h33.out
    have hbn := cell_lt n33
    have HCB := Lib.hid (put24_any O5 _ hn (N + 1) w5 (by have := HSM.out.1; omega) (by have := HL5.out; omega) HPB5.out.ns HPB5.out.own)
    go_wp2_with fail
    refine HCB.out.mono ?_
    rintro e w6 ⟨_, v6, rfl, ho6, hg6⟩
    have HPB6 := Lib.hid (HPB5.out.grow ho6 hg6)
    obtain ⟨va6, vc6, rfl, _⟩ := owns_shape ho6
    clear ho6 hg6
    have HL6 := Lib.hid (show (O5 ++ encU hn).length ≤ 2053 from by simp only [List.length_append]; have := HL5.out; have := HSM.out.1; have := encU_len hn (by omega); omega)
    generalize hO6 : O5 ++ encU hn = O6 at *
    have HO6 := Lib.hid hO6; clear hO6
    clear n33 hbn HCB
    go_upto_region 6 with (fail)
    have n34 : w6.cell? ⟨N, 34, none⟩ = some (.slice ba ES.length bc) := cell_of_blk HPB6.out.box h34.out
    have hbn := cell_lt n34
    have HPD := Lib.hid (HPB6.out.more (more_drew w6))
    obtain ⟨en, HEN⟩ : ∃ n, Hid (ES.length = n) := ⟨_, Lib.hid rfl⟩
    rw [HEN.out] at n34 h34 HBY HSL
    have hen := HSL.out
    refine wp_region_held_drew (S := fun W => W.cell? ⟨N, 34, none⟩ = some (.slice ba en bc)) (by kernel_rfl) n34 (fun hHeld => ?_)
    refine wpAnyH_take (i := 0) (v := ?_) (by simp only [List.getElem?_toArray, List.getElem?_cons_zero]; exact rfl) (by kernel_rfl) (by kernel_rfl) (by kernel_rfl) (by exact fun _ _ _ h => h) (Or.inl ⟨by kernel_rfl, ?_⟩) hHeld ?_
    rotate_left
    · intro w hSw
      (try dsimp only at hSw)
      first | (go_simp; done) | (go_simp; with_reducible rfl)
    (try simp only [Act.put, List.setIfInBounds_toArray, List.set_cons_zero, List.set_cons_succ])
    refine wpAnyH_take (i := 1) (v := ?_) (by simp only [List.getElem?_toArray, List.getElem?_cons_succ, List.getElem?_cons_zero]; exact rfl) (by kernel_rfl) (by kernel_rfl) (by kernel_rfl) (by exact fun _ _ _ h => h) (Or.inl ⟨by kernel_rfl, ?_⟩) hHeld ?_
    rotate_left
    · intro w hSw
      (try dsimp only at hSw)
      first | (go_simp; done) | (go_simp; with_reducible rfl)
    (try simp only [Act.put, List.setIfInBounds_toArray, List.set_cons_zero, List.set_cons_succ])
    refine wpAnyH_take (i := 2) (v := ?_) (by simp only [List.getElem?_toArray, List.getElem?_cons_succ, List.getElem?_cons_zero]; exact rfl) (by kernel_rfl) (by kernel_rfl) (by kernel_rfl) (by exact fun _ _ _ h => h) (Or.inl ⟨by kernel_rfl, ?_⟩) hHeld ?_
    rotate_left
    · intro w hSw
      (try dsimp only at hSw)
      first | (go_simp; done) | (go_simp; with_reducible rfl)
    (try simp only [Act.put, List.setIfInBounds_toArray, List.set_cons_zero, List.set_cons_succ])
    refine wpAnyH_take (i := 3) (v := ?_) (by simp only [List.getElem?_toArray, List.getElem?_cons_succ, List.getElem?_cons_zero]; exact rfl) (by kernel_rfl) (by kernel_rfl) (by kernel_rfl) (by exact fun _ _ _ h => h) (Or.inl ⟨by kernel_rfl, ?_⟩) hHeld ?_
    rotate_left
    · intro w hSw
      (try dsimp only at hSw)
      first | (go_simp; done) | (go_simp; with_reducible rfl)
    (try simp only [Act.put, List.setIfInBounds_toArray, List.set_cons_zero, List.set_cons_succ])
    refine wpAnyH_take (i := 5) (v := ?_) (by simp only [List.getElem?_toArray, List.getElem?_cons_succ, List.getElem?_cons_zero]; exact rfl) (by kernel_rfl) (by kernel_rfl) (by kernel_rfl) (by exact fun _ _ _ h => h) (Or.inl ⟨by kernel_rfl, ?_⟩) hHeld ?_
    rotate_left
    · intro w hSw
      (try dsimp only at hSw)
      first | (go_simp; done) | (go_simp; with_reducible rfl)
    (try simp only [Act.put, List.setIfInBounds_toArray, List.set_cons_zero, List.set_cons_succ])
    refine wpAnyH_take (i := 6) (v := ?_) (by simp only [List.getElem?_toArray, List.getElem?_cons_succ, List.getElem?_cons_zero]; exact rfl) (by kernel_rfl) (by kernel_rfl) (by kernel_rfl) (by exact fun _ _ _ h => h) (Or.inl ⟨by kernel_rfl, ?_⟩) hHeld ?_
    rotate_left
    · intro w hSw
      (try dsimp only at hSw)
      first | (go_simp; done) | (go_simp; with_reducible rfl)
    (try simp only [Act.put, List.setIfInBounds_toArray, List.set_cons_zero, List.set_cons_succ])
    refine wpAnyH_ready (rs := [4]) (by kernel_rfl) (by simp) ?_
    refine AllReadyH.cons (by simp only [List.getElem?_toArray, List.getElem?_cons_succ, List.getElem?_cons_zero]; exact rfl) (fun K hK => ?_) AllReadyH.nil
    have HCB := Lib.hid (put24_any O6 _ en (N + 1) w6.drew (by omega) (by have := HL6.out; omega) HPD.out.ns HPD.out.own)
    rw [if_pos (by kernel_rfl)]
    go_simp
    refine HCB.out.mono ?_
    clear n34 hbn
    rintro e w7 ⟨_, v7, rfl, ho7, hg7⟩
    have HPB7 := Lib.hid (HPD.out.grow ho7 hg7)
    obtain ⟨va7, vc7, rfl, _⟩ := owns_shape ho7
    clear ho7 hg7
    have HL7 := Lib.hid (show (O6 ++ encU en).length ≤ 2063 from by simp only [List.length_append]; have := HL6.out; have := encU_len en (by omega); omega)
    generalize hO7 : O6 ++ encU en = O7 at *
    have HO7 := Lib.hid hO7; clear hO7
    have K7 := cell_of_blk HPB7.out.box h34.out
    try go_wp2_with fail
    refine hK.out _ _ K7 (fun hHeld => ?_)
    clear hK K HCB
    (try simp only [Act.put, List.setIfInBounds_toArray, List.set_cons_zero, List.set_cons_succ])
    have HRW := Lib.hid (show Row anyB w7 1 en (.slice ba en bc) (bV ES) by have h := HBY.out.row.below (show Below w.heap.size w w7 by rw [← HN.out]; exact HPB7.out.low); rwa [HEN.out] at h)
    refine wpAnyH_ready (rs := [7]) (by kernel_rfl) (by simp) ?_
    refine AllReadyH.cons (by simp only [List.getElem?_toArray, List.getElem?_cons_succ, List.getElem?_cons_zero]; exact rfl) (fun K hK => ?_) AllReadyH.nil
    refine step_append_rowC rfl _ _ 26 rfl (N + 1) 5 i0 _ 1 1 Tryz.underlying26 hi0 hz0 hz1 hz2 rfl (by omega) _ _ _ rfl HPB7.out.own _ en _ rfl HRW.out HBY.out.nil (bV_one _) (by unfold maxLen; have := HL7.out; omega) (by have := HL7.out; omega) HPB7.out.ns (fun v8 w8 hown8 hgrow8 => ?_)
    obtain ⟨va8, vc8, rfl, _⟩ := owns_shape hown8
    have HPB8 := Lib.hid (HPB7.out.grow (Q := O7 ++ ES) (v' := .slice va8 (O7.length + en) vc8) (by rw [List.length_append, HEN.out, bV_append]; exact hown8) hgrow8)
    clear hown8 hgrow8 HRW
    have hl8 : (O7 ++ ES).length = O7.length + en := by rw [List.length_append, HEN.out]
    rw [← hl8] at HPB8 ⊢
    have HL8 := Lib.hid (show (O7 ++ ES).length ≤ 11769 by have := HL7.out; omega)
    clear hl8
    generalize hO8 : O7 ++ ES = O8 at *
    have HO8 := Lib.hid hO8; clear hO8
    have K8 := cell_of_blk HPB8.out.box h34.out
    refine hK.out _ _ K8 (fun hHeld => ?_)
    clear hK K
    (try simp only [Act.put, List.setIfInBounds_toArray, List.set_cons_zero, List.set_cons_succ])
    refine wpAnyH_take (i := 8) (v := ?_) (by simp only [List.getElem?_toArray, List.getElem?_cons_succ, List.getElem?_cons_zero]; exact rfl) (by kernel_rfl) (by kernel_rfl) (by kernel_rfl) (by exact fun _ _ _ h => h) (Or.inl ⟨by kernel_rfl, ?_⟩) hHeld ?_
    rotate_left
    · intro w hSw
      (try dsimp only at hSw)
      first | (go_simp; done) | (go_simp; with_reducible rfl)
    (try simp only [Act.put, List.setIfInBounds_toArray, List.set_cons_zero, List.set_cons_succ])
    refine wpAnyH_done (by kernel_rfl) ?_ _
    clear hen HPD HPB7 HPB6
    have n36 : w8.cell? ⟨N, 36, none⟩ = some (.slice ua U.length uc) := cell_of_blk HPB8.out.box h36.out
    have hbn := cell_lt n36
    have HCB := Lib.hid (put24_any O8 _ U.length (N + 1) w8 (by have := HSM.out.2.2.2.2.1; omega) (by have := HL8.out; omega) HPB8.out.ns HPB8.out.own)
    go_wp2_with fail
    refine HCB.out.mono ?_
    rintro e w9 ⟨_, v9, rfl, ho9, hg9⟩
    have HPB9 := Lib.hid (HPB8.out.grow ho9 hg9)
    obtain ⟨va9, vc9, rfl, _⟩ := owns_shape ho9
    clear ho9 hg9
    have HL9 := Lib.hid (show (O8 ++ encU U.length).length ≤ 11779 from by simp only [List.length_append]; have := HL8.out; have := HSM.out.2.2.2.2.1; have := encU_len U.length (by omega); omega)
    generalize hO9 : O8 ++ encU U.length = O9 at *
    have HO9 := Lib.hid hO9; clear hO9
    clear n36 hbn HCB
    have n36 : w9.cell? ⟨N, 36, none⟩ = some (.slice ua U.length uc) := cell_of_blk HPB9.out.box h36.out
    have hbn := cell_lt n36
    have hu3 := HSM.out.2.2.2.2.1
    go_wp2_with fail
    clear n36 hbn
    go_loopw [3, 48] (fun p i wr => ∃ (j : Nat) (O : List Int), j ≤ U.length ∧ i = .int .i64 j ∧ Hid (PR N w arr wr O p) ∧ Hid (O = O9 ++ (U.take j).flatMap encK) ∧ Hid (O.length ≤ 11779 + j * 31)) (fun _ i _ => U.length - (intOf i).toNat)
    case atStart => exact ⟨0, O9, Nat.zero_le _, rfl, HPB9, Lib.hid (by simp), Lib.hid (by have := HL9.out; omega)⟩
    case round =>
      obtain ⟨j, O, hj, rfl, HPO, HOE, HOL⟩ := hrel
      obtain ⟨wo, rfl⟩ : ∃ wo : World, wo = wr := ⟨_, rfl⟩
      obtain ⟨oa, oc, rfl, _⟩ := owns_shape HPO.out.own
      have HMW := Lib.hid (show More w wo from more_of (by rw [← HN.out]; exact HPO.out.low))
      have hu3 := HSM.out.2.2.2.2.1
      by_cases hlt : j < U.length
      · obtain ⟨b, off, rfl, _, hc⟩ := HUND.out.atC kC_len hlt
        have e0 := HMW.out.cell (hc 0 (.int .u8 U[j].kind) rfl)
        have e1 := HMW.out.cell (hc 1 (.int .i64 U[j].a) rfl)
        have e2 := HMW.out.cell (hc 2 (.int .i64 U[j].b) rfl)
        have e3 := HMW.out.cell (hc 3 (.int .i64 U[j].n) rfl)
        rw [Nat.add_zero] at e0
        clear hc
        have HKX := Lib.hid (HKO.out _ (List.getElem_mem hlt))
        have HT := Lib.hid (show U.take (j + 1) = U.take j ++ [U[j]] from List.take_succ_eq_append_getElem hlt)
        have HLT := Lib.hid hlt
        generalize U[j] = x at *
        obtain ⟨kd, xa, xb, xn⟩ := x
        obtain ⟨na, hna⟩ : ∃ n : Nat, xa = n := ⟨xa.toNat, by have := HKX.out.a0; dsimp only at this; omega⟩
        obtain ⟨nb, hnb⟩ : ∃ n : Nat, xb = n := ⟨xb.toNat, by have := HKX.out.b0; dsimp only at this; omega⟩
        obtain ⟨nn, hnn⟩ : ∃ n : Nat, xn = n := ⟨xn.toNat, by have := HKX.out.n0; dsimp only at this; omega⟩
        subst hna hnb hnn
        dsimp only at e0 e1 e2 e3
        have HXS := Lib.hid (show na ≤ 7 ∧ nb ≤ 7 ∧ nn ≤ 65535 by have h1 := HKX.out.a1; have h2 := key_small HKX.out; have h3 := HKX.out.n1; dsimp only at h1 h2 h3; omega)
        have hbe := cell_lt e0
        have HXB := Lib.hid (alloc_last wo (.cells #[.int .u8 kd, .int .i64 na, .int .i64 nb, .int .i64 nn] 53))
        have HMO := Lib.hid (more_alloc wo (.cells #[.int .u8 kd, .int .i64 na, .int .i64 nb, .int .i64 nn] 53))
        go_upto_region 11 with (fail)
        clear e0 e1 e2 e3 hbe
        generalize wo.alloc (.cells #[.int .u8 kd, .int .i64 na, .int .i64 nb, .int .i64 nn] 53) = w10 at *
        obtain ⟨XB, HXE⟩ : ∃ XB, Hid (XB = wo.heap.size) := ⟨_, Lib.hid rfl⟩
        rw [← HXE.out] at HXB ⊢
        have HP10 := Lib.hid (HPO.out.more HMO.out)
        have HPD := Lib.hid (HP10.out.more (more_drew w10))
        have HXD := Lib.hid (show w10.drew.heap[XB]? = some (.cells #[.int .u8 kd, .int .i64 na, .int .i64 nb, .int .i64 nn] 53) from HXB.out)
        have HK2 := Lib.hid (show ∀ W : World, W.heap[XB]? = some (.cells #[.int .u8 kd, .int .i64 na, .int .i64 nb, .int .i64 nn] 53) → (W.cell? ⟨XB, 0, none⟩ = some (.int .u8 kd) ∧ W.cell? ⟨XB, 1, none⟩ = some (.int .i64 na) ∧ W.cell? ⟨XB, 2, none⟩ = some (.int .i64 nb) ∧ W.cell? ⟨XB, 3, none⟩ = some (.int .i64 nn)) from fun W h => ⟨cell_of_blk h rfl, cell_of_blk h rfl, cell_of_blk h rfl, cell_of_blk h rfl⟩)
        have hbx := blk_lt HXB.out
        refine wp_region_held_drew (S := fun W => W.cell? ⟨XB, 0, none⟩ = some (.int .u8 kd) ∧ W.cell? ⟨XB, 1, none⟩ = some (.int .i64 na) ∧ W.cell? ⟨XB, 2, none⟩ = some (.int .i64 nb) ∧ W.cell? ⟨XB, 3, none⟩ = some (.int .i64 nn)) (by kernel_rfl) (HK2.out _ HXD.out) (fun hHeld => ?_)
        refine wpAnyH_take (i := 0) (v := ?_) (by simp only [List.getElem?_toArray, List.getElem?_cons_zero]; exact rfl) (by kernel_rfl) (by kernel_rfl) (by kernel_rfl) (by exact fun _ _ _ h => h) (Or.inl ⟨by kernel_rfl, ?_⟩) hHeld ?_
        rotate_left
        · intro w hSw
          (try dsimp only at hSw)
          first | (go_simp; done) | (go_simp; with_reducible rfl)
        (try simp only [Act.put, List.setIfInBounds_toArray, List.set_cons_zero, List.set_cons_succ])
        refine wpAnyH_take (i := 1) (v := ?_) (by simp only [List.getElem?_toArray, List.getElem?_cons_succ, List.getElem?_cons_zero]; exact rfl) (by kernel_rfl) (by kernel_rfl) (by kernel_rfl) (by exact fun _ _ _ h => h) (Or.inl ⟨by kernel_rfl, ?_⟩) hHeld ?_
        rotate_left
        · intro w hSw
          (try dsimp only at hSw)
          first | (go_simp; done) | (go_simp; with_reducible rfl)
        (try simp only [Act.put, List.setIfInBounds_toArray, List.set_cons_zero, List.set_cons_succ])
        refine wpAnyH_take (i := 2) (v := ?_) (by simp only [List.getElem?_toArray, List.getElem?_cons_succ, List.getElem?_cons_zero]; exact rfl) (by kernel_rfl) (by kernel_rfl) (by kernel_rfl) (by exact fun _ _ _ h => h) (Or.inl ⟨by kernel_rfl, ?_⟩) hHeld ?_
        rotate_left
        · intro w hSw
          (try dsimp only at hSw)
          first | (go_simp; done) | (go_simp; with_reducible rfl)
        (try simp only [Act.put, List.setIfInBounds_toArray, List.set_cons_zero, List.set_cons_succ])
        refine wpAnyH_take (i := 5) (v := ?_) (by simp only [List.getElem?_toArray, List.getElem?_cons_succ, List.getElem?_cons_zero]; exact rfl) (by kernel_rfl) (by kernel_rfl) (by kernel_rfl) (by exact fun _ _ _ h => h) (Or.inl ⟨by kernel_rfl, ?_⟩) hHeld ?_
        rotate_left
        · intro w hSw
          (try dsimp only at hSw)
          first | (go_simp; done) | (go_simp; with_reducible rfl)
        (try simp only [Act.put, List.setIfInBounds_toArray, List.set_cons_zero, List.set_cons_succ])
        refine wpAnyH_take (i := 6) (v := ?_) (by simp only [List.getElem?_toArray, List.getElem?_cons_succ, List.getElem?_cons_zero]; exact rfl) (by kernel_rfl) (by kernel_rfl) (by kernel_rfl) (by exact fun _ _ _ h => h) (Or.inl ⟨by kernel_rfl, ?_⟩) hHeld ?_
        rotate_left
        · intro w hSw
          (try dsimp only at hSw)
          first | (go_simp; done) | (go_simp; with_reducible rfl)
        (try simp only [Act.put, List.setIfInBounds_toArray, List.set_cons_zero, List.set_cons_succ])
        refine wpAnyH_take (i := 8) (v := ?_) (by simp only [List.getElem?_toArray, List.getElem?_cons_succ, List.getElem?_cons_zero]; exact rfl) (by kernel_rfl) (by kernel_rfl) (by kernel_rfl) (by exact fun _ _ _ h => h) (Or.inl ⟨by kernel_rfl, ?_⟩) hHeld ?_
        rotate_left
        · intro w hSw
          (try dsimp only at hSw)
          first | (go_simp; done) | (go_simp; with_reducible rfl)
        (try simp only [Act.put, List.setIfInBounds_toArray, List.set_cons_zero, List.set_cons_succ])
        refine wpAnyH_take (i := 9) (v := ?_) (by simp only [List.getElem?_toArray, List.getElem?_cons_succ, List.getElem?_cons_zero]; exact rfl) (by kernel_rfl) (by kernel_rfl) (by kernel_rfl) (by exact fun _ _ _ h => h) (Or.inl ⟨by kernel_rfl, ?_⟩) hHeld ?_
        rotate_left
        · intro w hSw
          (try dsimp only at hSw)
          first | (go_simp; done) | (go_simp; with_reducible rfl)
        (try simp only [Act.put, List.setIfInBounds_toArray, List.set_cons_zero, List.set_cons_succ])
        refine wpAnyH_take (i := 11) (v := ?_) (by simp only [List.getElem?_toArray, List.getElem?_cons_succ, List.getElem?_cons_zero]; exact rfl) (by kernel_rfl) (by kernel_rfl) (by kernel_rfl) (by exact fun _ _ _ h => h) (Or.inl ⟨by kernel_rfl, ?_⟩) hHeld ?_
        rotate_left
        · intro w hSw
          (try dsimp only at hSw)
          first | (go_simp; done) | (go_simp; with_reducible rfl)
        (try simp only [Act.put, List.setIfInBounds_toArray, List.set_cons_zero, List.set_cons_succ])
        refine wpAnyH_take (i := 12) (v := ?_) (by simp only [List.getElem?_toArray, List.getElem?_cons_succ, List.getElem?_cons_zero]; exact rfl) (by kernel_rfl) (by kernel_rfl) (by kernel_rfl) (by exact fun _ _ _ h => h) (Or.inl ⟨by kernel_rfl, ?_⟩) hHeld ?_
        rotate_left
        · intro w hSw
          (try dsimp only at hSw)
          first | (go_simp; done) | (go_simp; with_reducible rfl)
        (try simp only [Act.put, List.setIfInBounds_toArray, List.set_cons_zero, List.set_cons_succ])
        refine wpAnyH_ready (rs := [3]) (by kernel_rfl) (by simp) ?_
        refine AllReadyH.cons (by simp only [List.getElem?_toArray, List.getElem?_cons_succ, List.getElem?_cons_zero]; exact rfl) (fun K hK => ?_) AllReadyH.nil
        rw [if_pos (by kernel_rfl)]
        have HMV := Lib.hid (more_alloc w10.drew (.cells #[.int .u8 kd] 5))
        have HNW := Lib.hid (alloc_last w10.drew (.cells #[.int .u8 kd] 5))
        have HPV := Lib.hid (HPD.out.more HMV.out)
        have HXV := Lib.hid ((HMV.out.block (blk_lt HXD.out)).trans HXD.out)
        go_simp
        refine hK.out _ _ (HK2.out _ HXV.out) (fun hHeld => ?_)
        clear hK K
        (try simp only [Act.put, List.setIfInBounds_toArray, List.set_cons_zero, List.set_cons_succ])
        have HR1 := Lib.hid (show O.length + 1 ≤ maxLen ∧ (O.length + 1) * 1 ≤ 140737488355328 from by have h1 := HOL.out; have h2 := HLT.out; unfold maxLen; omega)
        have HSP := Lib.hid (HPV.out.ns)
        have HRW := Lib.hid (show Row anyB (w10.drew.alloc (.cells #[.int .u8 kd] 5)) 1 1 (.slice (some ⟨w10.drew.heap.size, 0, none⟩) 1 1) (bV [kd]) from ⟨rfl, _, _, rfl, Nat.le_refl _, fun _ => ⟨w10.drew.heap.size, 0, rfl, trivial, fun i u hi => by
            rw [Nat.zero_add]
            cases i with
            | zero => cases hi; exact cell_of_blk HNW.out rfl
            | succ i => cases hi⟩⟩)
        refine wpAnyH_ready (rs := [4]) (by kernel_rfl) (by simp) ?_
        refine AllReadyH.cons (by simp only [List.getElem?_toArray, List.getElem?_cons_succ, List.getElem?_cons_zero]; exact rfl) (fun K hK => ?_) AllReadyH.nil
        refine step_append_rowC rfl _ _ 26 rfl (N + 1) 5 i0 _ 1 1 Tryz.underlying26 hi0 hz0 hz1 hz2 rfl (by omega) _ _ _ rfl HPV.out.own _ 1 _ rfl HRW.out (fun n c e => by cases e) (bV_one _) HR1.out.1 HR1.out.2 HSP.out (fun v11 w11 hown hgrow => ?_)
        have HP11 := Lib.hid (HPV.out.grow (Q := O ++ [kd]) (v' := v11) (by rw [bV_append, List.length_append]; exact hown) hgrow)
        have HX11 := Lib.hid (HPV.out.keep HXV.out (by decide) hgrow)
        have HL16 := Lib.hid (show (O ++ [kd]).length ≤ 11780 + j * 31 by rw [List.length_append]; have := HOL.out; simp only [List.length_singleton]; omega)
        obtain ⟨ga1, gc1, rfl, _⟩ := owns_shape hown
        have hl9 : (O ++ [kd]).length = O.length + 1 := by rw [List.length_append]; rfl
        clear hown hgrow HRW HNW HMV HPV HXV
        rw [← hl9] at HP11 ⊢
        clear hl9
        generalize hO6 : O ++ [kd] = O16 at *
        have HO16 := Lib.hid hO6; clear hO6
        refine hK.out _ _ (HK2.out _ HX11.out) (fun hHeld => ?_)
        clear hK K
        (try simp only [Act.put, List.setIfInBounds_toArray, List.set_cons_zero, List.set_cons_succ])
        have HCB := Lib.hid (put24_any O16 _ na (N + 1) w11 (by have := HXS.out; omega) (by have := HL16.out; have := HLT.out; omega) HP11.out.ns HP11.out.own)
        refine wpAnyH_ready (rs := [7]) (by kernel_rfl) (by simp) ?_
        refine AllReadyH.cons (by simp only [List.getElem?_toArray, List.getElem?_cons_succ, List.getElem?_cons_zero]; exact rfl) (fun K hK => ?_) AllReadyH.nil
        rw [if_pos (by kernel_rfl)]
        go_simp
        refine HCB.out.mono ?_
        rintro e w12 ⟨_, v17, rfl, ho17, hg17⟩
        have HPB17 := Lib.hid (HP11.out.grow ho17 hg17)
        have HX17 := Lib.hid (HP11.out.keep HX11.out (by decide) hg17)
        obtain ⟨va17, vc17, rfl, _⟩ := owns_shape ho17
        clear ho17 hg17
        have HL17 := Lib.hid (show (O16 ++ encU na).length ≤ 11790 + j * 31 from by simp only [List.length_append]; have := HL16.out; have := HXS.out; have := encU_len na (by omega); omega)
        generalize hO17 : O16 ++ encU na = O17 at *
        have HO17 := Lib.hid hO17; clear hO17
        try go_wp2_with fail
        refine hK.out _ _ (HK2.out _ HX17.out) (fun hHeld => ?_)
        clear hK K HCB
        (try simp only [Act.put, List.setIfInBounds_toArray, List.set_cons_zero, List.set_cons_succ])
        have HCB := Lib.hid (put24_any O17 _ nb (N + 1) w12 (by have := HXS.out; omega) (by have := HL17.out; have := HLT.out; omega) HPB17.out.ns HPB17.out.own)
        refine wpAnyH_ready (rs := [10]) (by kernel_rfl) (by simp) ?_
        refine AllReadyH.cons (by simp only [List.getElem?_toArray, List.getElem?_cons_succ, List.getElem?_cons_zero]; exact rfl) (fun K hK => ?_) AllReadyH.nil
        rw [if_pos (by kernel_rfl)]
        go_simp
        refine HCB.out.mono ?_
        rintro e w13 ⟨_, v18, rfl, ho18, hg18⟩
        have HPB18 := Lib.hid (HPB17.out.grow ho18 hg18)
        have HX18 := Lib.hid (HPB17.out.keep HX17.out (by decide) hg18)
        obtain ⟨va18, vc18, rfl, _⟩ := owns_shape ho18
        clear ho18 hg18
        have HL18 := Lib.hid (show (O17 ++ encU nb).length ≤ 11800 + j * 31 from by simp only [List.length_append]; have := HL17.out; have := HXS.out; have := encU_len nb (by omega); omega)
        generalize hO18 : O17 ++ encU nb = O18 at *
        have HO18 := Lib.hid hO18; clear hO18
        try go_wp2_with fail
        refine hK.out _ _ (HK2.out _ HX18.out) (fun hHeld => ?_)
        clear hK K HCB
        (try simp only [Act.put, List.setIfInBounds_toArray, List.set_cons_zero, List.set_cons_succ])
        have HCB := Lib.hid (put24_any O18 _ nn (N + 1) w13 (by have := HXS.out; omega) (by have := HL18.out; have := HLT.out; omega) HPB18.out.ns HPB18.out.own)
        refine wpAnyH_ready (rs := [13]) (by kernel_rfl) (by simp) ?_
        refine AllReadyH.cons (by simp only [List.getElem?_toArray, List.getElem?_cons_succ, List.getElem?_cons_zero]; exact rfl) (fun K hK => ?_) AllReadyH.nil
        rw [if_pos (by kernel_rfl)]
        go_simp
        refine HCB.out.mono ?_
        rintro e w14 ⟨_, v19, rfl, ho19, hg19⟩
        have HPB19 := Lib.hid (HPB18.out.grow ho19 hg19)
        have HX19 := Lib.hid (HPB18.out.keep HX18.out (by decide) hg19)
        obtain ⟨va19, vc19, rfl, _⟩ := owns_shape ho19
        clear ho19 hg19
        have HL19 := Lib.hid (show (O18 ++ encU nn).length ≤ 11810 + j * 31 from by simp only [List.length_append]; have := HL18.out; have := HXS.out; have := encU_len nn (by omega); omega)
        generalize hO19 : O18 ++ encU nn = O19 at *
        have HO19 := Lib.hid hO19; clear hO19
        try go_wp2_with fail
        refine hK.out _ _ (HK2.out _ HX19.out) (fun hHeld => ?_)
        clear hK K HCB
        (try simp only [Act.put, List.setIfInBounds_toArray, List.set_cons_zero, List.set_cons_succ])
        refine wpAnyH_take (i := 14) (v := ?_) (by simp only [List.getElem?_toArray, List.getElem?_cons_succ, List.getElem?_cons_zero]; exact rfl) (by kernel_rfl) (by kernel_rfl) (by kernel_rfl) (by exact fun _ _ _ h => h) (Or.inl ⟨by kernel_rfl, ?_⟩) hHeld ?_
        rotate_left
        · intro w hSw
          (try dsimp only at hSw)
          first | (go_simp; done) | (go_simp; with_reducible rfl)
        (try simp only [Act.put, List.setIfInBounds_toArray, List.set_cons_zero, List.set_cons_succ])
        refine wpAnyH_done (by kernel_rfl) ?_ _
        have hlt9 := HLT.out
        clear hbx
        go_wp2_with fail
        go_roundw
        case rel => exact ⟨j + 1, O19, by have := HLT.out; omega, by go_num, HPB19, Lib.hid (by rw [HT.out, List.flatMap_append, List.flatMap_cons, List.flatMap_nil, List.append_nil, ← List.append_assoc, ← HOE.out, ← HO19.out, ← HO18.out, ← HO17.out, ← HO16.out]; simp [encK, List.append_assoc]), Lib.hid (by have := HL19.out; omega)⟩
        case measure => have := HLT.out; simp [intOf]; omega
      · obtain rfl : j = U.length := by omega
        rw [List.take_of_length_le (Nat.le_refl _)] at HOE
        have HL20 := Lib.hid (show O.length ≤ 11872 by have := HOL.out; omega)
        clear hlt hj HOL
        have n37 : wo.cell? ⟨N, 37, none⟩ = some (.slice ha H.length hcp) := cell_of_blk HPO.out.box h37.out
        have hbn := cell_lt n37
        have HCB := Lib.hid (put24_any O _ H.length (N + 1) wo (by have := HSM.out.2.2.2.2.2; omega) (by have := HL20.out; omega) HPO.out.ns HPO.out.own)
        go_wp2_with fail
        refine HCB.out.mono ?_
        rintro e w20 ⟨_, v20, rfl, ho20, hg20⟩
        have HPB20 := Lib.hid (HPO.out.grow ho20 hg20)
        obtain ⟨va20, vc20, rfl, _⟩ := owns_shape ho20
        clear ho20 hg20
        have HL20 := Lib.hid (show (O ++ encU H.length).length ≤ 11882 from by simp only [List.length_append]; have := HL20.out; have := HSM.out.2.2.2.2.2; have := encU_len H.length (by omega); omega)
        generalize hO20 : O ++ encU H.length = O20 at *
        have HO20 := Lib.hid hO20; clear hO20
        clear n37 hbn HCB
        have n37 : w20.cell? ⟨N, 37, none⟩ = some (.slice ha H.length hcp) := cell_of_blk HPB20.out.box h37.out
        have hbn := cell_lt n37
        have hh2 := HSM.out.2.2.2.2.2
        go_wp2_with fail
        clear n37 hbn
        go_loopw [3, 75] (fun p i wr => ∃ (j : Nat) (Q : List Int), j ≤ H.length ∧ i = .int .i64 j ∧ Hid (PR N w arr wr Q p) ∧ Hid (Q = O20 ++ (H.take j).flatMap encHo) ∧ Hid (Q.length ≤ 11882 + j * 200)) (fun _ i _ => H.length - (intOf i).toNat)
        case atStart => exact ⟨0, O20, Nat.zero_le _, rfl, HPB20, Lib.hid (by simp), Lib.hid (by have := HL20.out; omega)⟩
        case round =>
          obtain ⟨j, Q, hj, rfl, HPQ, HQE, HQL⟩ := hrel
          obtain ⟨wq, rfl⟩ : ∃ wq : World, wq = wr := ⟨_, rfl⟩
          obtain ⟨qa, qc2, rfl, _⟩ := owns_shape HPQ.out.own
          have HMW := Lib.hid (show More w wq from more_of (by rw [← HN.out]; exact HPQ.out.low))
          have hh2 := HSM.out.2.2.2.2.2
          by_cases hlt : j < H.length
          · obtain ⟨b, off, rfl, _, hc⟩ := HHOL.out.atC hC_len hlt
            have e0 := HMW.out.cell (hc 0 (.int .i64 H[j].2.m.f) rfl)
            have e1 := HMW.out.cell (hc 1 (.int .i64 H[j].2.m.t) rfl)
            have e2 := HMW.out.cell (hc 2 (.int .i64 H[j].2.m.n) rfl)
            have e3 := HMW.out.cell (hc 3 (H[j].1) rfl)
            rw [Nat.add_zero] at e0
            clear hc
            have hmem := List.getElem_mem hlt
            have HAT := Lib.hid (HEACH.out _ hmem)
            have hok := HHO.out.ok _ hmem
            have htk := HHO.out.tk _ hmem
            have HAI := Lib.hid (HHI.out _ hmem)
            have HT := Lib.hid (show H.take (j + 1) = H.take j ++ [H[j]] from List.take_succ_eq_append_getElem hlt)
            have HLT := Lib.hid hlt
            clear hmem
            generalize H[j] = x at *
            obtain ⟨xv, ⟨⟨mf, mt, mn⟩, al⟩⟩ := x
            obtain ⟨p1, p1b, p2, p2b, p3, p4, p5, p6⟩ := ho_parts hok
            dsimp only at p1 p1b p2 p2b p3 p4
            have HAR := Lib.hid (arOkb_each (by omega) p6)
            have HTK := Lib.hid htk
            clear htk hok
            obtain ⟨na, hna⟩ : ∃ n : Nat, mf = n := ⟨mf.toNat, by omega⟩
            obtain ⟨nb, hnb⟩ : ∃ n : Nat, mt = n := ⟨mt.toNat, by omega⟩
            obtain ⟨nn, hnn⟩ : ∃ n : Nat, mn = n := ⟨mn.toNat, by omega⟩
            subst hna hnb hnn
            obtain ⟨xa, xc, hxv, _⟩ := HAT.out.row.shape
            dsimp only at hxv e0 e1 e2 e3
            subst hxv
            obtain ⟨an, HAN⟩ : ∃ an, Hid (al.length = an) := ⟨_, Lib.hid rfl⟩
            rw [HAN.out] at e3 p5
            have HXS := Lib.hid (show na ≤ 8 ∧ nb ≤ 8 ∧ nn ≤ 65535 ∧ an ≤ 2 by omega)
            clear p1 p1b p2 p2b p3 p4 p5 p6
            have hbe := cell_lt e0
            have HXB := Lib.hid (alloc_last wq (.cells #[.int .i64 na, .int .i64 nb, .int .i64 nn, .slice xa an xc] 68))
            have HMO := Lib.hid (more_alloc wq (.cells #[.int .i64 na, .int .i64 nb, .int .i64 nn, .slice xa an xc] 68))
            go_upto_region 17 with (fail)
            clear e0 e1 e2 e3 hbe
            generalize wq.alloc (.cells #[.int .i64 na, .int .i64 nb, .int .i64 nn, .slice xa an xc] 68) = w21 at *
            obtain ⟨XB, HXE⟩ : ∃ XB, Hid (XB = wq.heap.size) := ⟨_, Lib.hid rfl⟩
            rw [← HXE.out] at HXB ⊢
            have HPH := Lib.hid (HPQ.out.more HMO.out)
            have HPD := Lib.hid (HPH.out.more (more_drew w21))
            have HXD := Lib.hid (show w21.drew.heap[XB]? = some (.cells #[.int .i64 na, .int .i64 nb, .int .i64 nn, .slice xa an xc] 68) from HXB.out)
            have HK2 := Lib.hid (show ∀ W : World, W.heap[XB]? = some (.cells #[.int .i64 na, .int .i64 nb, .int .i64 nn, .slice xa an xc] 68) → (W.cell? ⟨XB, 0, none⟩ = some (.int .i64 na) ∧ W.cell? ⟨XB, 1, none⟩ = some (.int .i64 nb) ∧ W.cell? ⟨XB, 2, none⟩ = some (.int .i64 nn)) from fun W h => ⟨cell_of_blk h rfl, cell_of_blk h rfl, cell_of_blk h rfl⟩)
            have hbx := blk_lt HXB.out
            refine wp_region_held_drew (S := fun W => W.cell? ⟨XB, 0, none⟩ = some (.int .i64 na) ∧ W.cell? ⟨XB, 1, none⟩ = some (.int .i64 nb) ∧ W.cell? ⟨XB, 2, none⟩ = some (.int .i64 nn)) (by kernel_rfl) (HK2.out _ HXD.out) (fun hHeld => ?_)
            refine wpAnyH_take (i := 0) (v := ?_) (by simp only [List.getElem?_toArray, List.getElem?_cons_zero]; exact rfl) (by kernel_rfl) (by kernel_rfl) (by kernel_rfl) (by exact fun _ _ _ h => h) (Or.inl ⟨by kernel_rfl, ?_⟩) hHeld ?_
            rotate_left
            · intro w hSw
              (try dsimp only at hSw)
              first | (go_simp; done) | (go_simp; with_reducible rfl)
            (try simp only [Act.put, List.setIfInBounds_toArray, List.set_cons_zero, List.set_cons_succ])
            refine wpAnyH_take (i := 1) (v := ?_) (by simp only [List.getElem?_toArray, List.getElem?_cons_succ, List.getElem?_cons_zero]; exact rfl) (by kernel_rfl) (by kernel_rfl) (by kernel_rfl) (by exact fun _ _ _ h => h) (Or.inl ⟨by kernel_rfl, ?_⟩) hHeld ?_
            rotate_left
            · intro w hSw
              (try dsimp only at hSw)
              first | (go_simp; done) | (go_simp; with_reducible rfl)
            (try simp only [Act.put, List.setIfInBounds_toArray, List.set_cons_zero, List.set_cons_succ])
            refine wpAnyH_take (i := 2) (v := ?_) (by simp only [List.getElem?_toArray, List.getElem?_cons_succ, List.getElem?_cons_zero]; exact rfl) (by kernel_rfl) (by kernel_rfl) (by kernel_rfl) (by exact fun _ _ _ h => h) (Or.inl ⟨by kernel_rfl, ?_⟩) hHeld ?_
            rotate_left
            · intro w hSw
              (try dsimp only at hSw)
              first | (go_simp; done) | (go_simp; with_reducible rfl)
            (try simp only [Act.put, List.setIfInBounds_toArray, List.set_cons_zero, List.set_cons_succ])
            refine wpAnyH_take (i := 3) (v := ?_) (by simp only [List.getElem?_toArray, List.getElem?_cons_succ, List.getElem?_cons_zero]; exact rfl) (by kernel_rfl) (by kernel_rfl) (by kernel_rfl) (by exact fun _ _ _ h => h) (Or.inl ⟨by kernel_rfl, ?_⟩) hHeld ?_
            rotate_left
            · intro w hSw
              (try dsimp only at hSw)
              first | (go_simp; done) | (go_simp; with_reducible rfl)
            (try simp only [Act.put, List.setIfInBounds_toArray, List.set_cons_zero, List.set_cons_succ])
            refine wpAnyH_take (i := 5) (v := ?_) (by simp only [List.getElem?_toArray, List.getElem?_cons_succ, List.getElem?_cons_zero]; exact rfl) (by kernel_rfl) (by kernel_rfl) (by kernel_rfl) (by exact fun _ _ _ h => h) (Or.inl ⟨by kernel_rfl, ?_⟩) hHeld ?_
            rotate_left
            · intro w hSw
              (try dsimp only at hSw)
              first | (go_simp; done) | (go_simp; with_reducible rfl)
            (try simp only [Act.put, List.setIfInBounds_toArray, List.set_cons_zero, List.set_cons_succ])
            refine wpAnyH_take (i := 6) (v := ?_) (by simp only [List.getElem?_toArray, List.getElem?_cons_succ, List.getElem?_cons_zero]; exact rfl) (by kernel_rfl) (by kernel_rfl) (by kernel_rfl) (by exact fun _ _ _ h => h) (Or.inl ⟨by kernel_rfl, ?_⟩) hHeld ?_
            rotate_left
            · intro w hSw
              (try dsimp only at hSw)
              first | (go_simp; done) | (go_simp; with_reducible rfl)
            (try simp only [Act.put, List.setIfInBounds_toArray, List.set_cons_zero, List.set_cons_succ])
            refine wpAnyH_take (i := 7) (v := ?_) (by simp only [List.getElem?_toArray, List.getElem?_cons_succ, List.getElem?_cons_zero]; exact rfl) (by kernel_rfl) (by kernel_rfl) (by kernel_rfl) (by exact fun _ _ _ h => h) (Or.inl ⟨by kernel_rfl, ?_⟩) hHeld ?_
            rotate_left
            · intro w hSw
              (try dsimp only at hSw)
              first | (go_simp; done) | (go_simp; with_reducible rfl)
            (try simp only [Act.put, List.setIfInBounds_toArray, List.set_cons_zero, List.set_cons_succ])
            refine wpAnyH_take (i := 9) (v := ?_) (by simp only [List.getElem?_toArray, List.getElem?_cons_succ, List.getElem?_cons_zero]; exact rfl) (by kernel_rfl) (by kernel_rfl) (by kernel_rfl) (by exact fun _ _ _ h => h) (Or.inl ⟨by kernel_rfl, ?_⟩) hHeld ?_
            rotate_left
            · intro w hSw
              (try dsimp only at hSw)
              first | (go_simp; done) | (go_simp; with_reducible rfl)
            (try simp only [Act.put, List.setIfInBounds_toArray, List.set_cons_zero, List.set_cons_succ])
            refine wpAnyH_take (i := 10) (v := ?_) (by simp only [List.getElem?_toArray, List.getElem?_cons_succ, List.getElem?_cons_zero]; exact rfl) (by kernel_rfl) (by kernel_rfl) (by kernel_rfl) (by exact fun _ _ _ h => h) (Or.inl ⟨by kernel_rfl, ?_⟩) hHeld ?_
            rotate_left
            · intro w hSw
              (try dsimp only at hSw)
              first | (go_simp; done) | (go_simp; with_reducible rfl)
            (try simp only [Act.put, List.setIfInBounds_toArray, List.set_cons_zero, List.set_cons_succ])
            refine wpAnyH_take (i := 11) (v := ?_) (by simp only [List.getElem?_toArray, List.getElem?_cons_succ, List.getElem?_cons_zero]; exact rfl) (by kernel_rfl) (by kernel_rfl) (by kernel_rfl) (by exact fun _ _ _ h => h) (Or.inl ⟨by kernel_rfl, ?_⟩) hHeld ?_
            rotate_left
            · intro w hSw
              (try dsimp only at hSw)
              first | (go_simp; done) | (go_simp; with_reducible rfl)
            (try simp only [Act.put, List.setIfInBounds_toArray, List.set_cons_zero, List.set_cons_succ])
            have HCB := Lib.hid (put24_any Q _ na (N + 1) w21.drew (by have := HXS.out; omega) (by have := HQL.out; have := HLT.out; omega) HPD.out.ns HPD.out.own)
            refine wpAnyH_ready (rs := [4]) (by kernel_rfl) (by simp) ?_
            refine AllReadyH.cons (by simp only [List.getElem?_toArray, List.getElem?_cons_succ, List.getElem?_cons_zero]; exact rfl) (fun K hK => ?_) AllReadyH.nil
            rw [if_pos (by kernel_rfl)]
            go_simp
            refine HCB.out.mono ?_
            rintro e w22 ⟨_, v21, rfl, ho21, hg21⟩
            have HPB21 := Lib.hid (HPD.out.grow ho21 hg21)
            have HX21 := Lib.hid (HPD.out.keep HXD.out (by decide) hg21)
            obtain ⟨va21, vc21, rfl, _⟩ := owns_shape ho21
            clear ho21 hg21
            have HL21 := Lib.hid (show (Q ++ encU na).length ≤ 11892 + j * 200 from by simp only [List.length_append]; have := HQL.out; have := HXS.out; have := encU_len na (by omega); omega)
            generalize hO21 : Q ++ encU na = O21 at *
            have HO21 := Lib.hid hO21; clear hO21
            try go_wp2_with fail
            refine hK.out _ _ (HK2.out _ HX21.out) (fun hHeld => ?_)
            clear hK K HCB
            (try simp only [Act.put, List.setIfInBounds_toArray, List.set_cons_zero, List.set_cons_succ])
            have HCB := Lib.hid (put24_any O21 _ nb (N + 1) w22 (by have := HXS.out; omega) (by have := HL21.out; have := HLT.out; omega) HPB21.out.ns HPB21.out.own)
            refine wpAnyH_ready (rs := [8]) (by kernel_rfl) (by simp) ?_
            refine AllReadyH.cons (by simp only [List.getElem?_toArray, List.getElem?_cons_succ, List.getElem?_cons_zero]; exact rfl) (fun K hK => ?_) AllReadyH.nil
            rw [if_pos (by kernel_rfl)]
            go_simp
            refine HCB.out.mono ?_
            rintro e w23 ⟨_, v22, rfl, ho22, hg22⟩
            have HPB22 := Lib.hid (HPB21.out.grow ho22 hg22)
            have HX22 := Lib.hid (HPB21.out.keep HX21.out (by decide) hg22)
            obtain ⟨va22, vc22, rfl, _⟩ := owns_shape ho22
            clear ho22 hg22
            have HL22 := Lib.hid (show (O21 ++ encU nb).length ≤ 11902 + j * 200 from by simp only [List.length_append]; have := HL21.out; have := HXS.out; have := encU_len nb (by omega); omega)
            generalize hO22 : O21 ++ encU nb = O22 at *
            have HO22 := Lib.hid hO22; clear hO22
            try go_wp2_with fail
            refine hK.out _ _ (HK2.out _ HX22.out) (fun hHeld => ?_)
            clear hK K HCB
            (try simp only [Act.put, List.setIfInBounds_toArray, List.set_cons_zero, List.set_cons_succ])
            have HCB := Lib.hid (put24_any O22 _ nn (N + 1) w23 (by have := HXS.out; omega) (by have := HL22.out; have := HLT.out; omega) HPB22.out.ns HPB22.out.own)
            refine wpAnyH_ready (rs := [12]) (by kernel_rfl) (by simp) ?_
            refine AllReadyH.cons (by simp only [List.getElem?_toArray, List.getElem?_cons_succ, List.getElem?_cons_zero]; exact rfl) (fun K hK => ?_) AllReadyH.nil
            rw [if_pos (by kernel_rfl)]
            go_simp
            refine HCB.out.mono ?_
            rintro e w24 ⟨_, v23, rfl, ho23, hg23⟩
            have HPB23 := Lib.hid (HPB22.out.grow ho23 hg23)
            have HX23 := Lib.hid (HPB22.out.keep HX22.out (by decide) hg23)
            obtain ⟨va23, vc23, rfl, _⟩ := owns_shape ho23
            clear ho23 hg23
            have HL23 := Lib.hid (show (O22 ++ encU nn).length ≤ 11912 + j * 200 from by simp only [List.length_append]; have := HL22.out; have := HXS.out; have := encU_len nn (by omega); omega)
            generalize hO23 : O22 ++ encU nn = O23 at *
            have HO23 := Lib.hid hO23; clear hO23
            try go_wp2_with fail
            refine hK.out _ _ (HK2.out _ HX23.out) (fun hHeld => ?_)
            clear hK K HCB
            (try simp only [Act.put, List.setIfInBounds_toArray, List.set_cons_zero, List.set_cons_succ])
            refine wpAnyH_take (i := 13) (v := ?_) (by simp only [List.getElem?_toArray, List.getElem?_cons_succ, List.getElem?_cons_zero]; exact rfl) (by kernel_rfl) (by kernel_rfl) (by kernel_rfl) (by exact fun _ _ _ h => h) (Or.inl ⟨by kernel_rfl, ?_⟩) hHeld ?_
            rotate_left
            · intro w hSw
              (try dsimp only at hSw)
              first | (go_simp; done) | (go_simp; with_reducible rfl)
            (try simp only [Act.put, List.setIfInBounds_toArray, List.set_cons_zero, List.set_cons_succ])
            refine wpAnyH_done (by kernel_rfl) ?_ _
            clear hbx
            have x3 : w24.cell? ⟨XB, 3, none⟩ = some (.slice xa an xc) := cell_of_blk HX23.out rfl
            have hbx := cell_lt x3
            have HCB := Lib.hid (put24_any O23 _ an (N + 1) w24 (by have := HXS.out; omega) (by have := HL23.out; have := HLT.out; omega) HPB23.out.ns HPB23.out.own)
            go_wp2_with fail
            refine HCB.out.mono ?_
            rintro e w25 ⟨_, v24, rfl, ho24, hg24⟩
            have HPB24 := Lib.hid (HPB23.out.grow ho24 hg24)
            have HX24 := Lib.hid (HPB23.out.keep HX23.out (by decide) hg24)
            obtain ⟨va24, vc24, rfl, _⟩ := owns_shape ho24
            clear ho24 hg24
            have HL24 := Lib.hid (show (O23 ++ encU an).length ≤ 11922 + j * 200 from by simp only [List.length_append]; have := HL23.out; have := HXS.out; have := encU_len an (by omega); omega)
            generalize hO24 : O23 ++ encU an = O24 at *
            have HO24 := Lib.hid hO24; clear hO24
            clear x3 hbx HCB
            have x3 : w25.cell? ⟨XB, 3, none⟩ = some (.slice xa an xc) := cell_of_blk HX24.out rfl
            have hbx := cell_lt x3
            have han := HXS.out.2.2.2
            go_wp2_with fail
            clear x3 hbx
            go_loopw [3, 100] (fun p i wr => ∃ (m : Nat) (G : List Int), m ≤ an ∧ i = .int .i64 m ∧ Hid (PR N w arr wr G p) ∧ Hid (G = O24 ++ (al.take m).flatMap encAr) ∧ Hid (G.length ≤ 11922 + j * 200 + m * 70)) (fun _ i _ => an - (intOf i).toNat)
            case atStart => exact ⟨0, O24, Nat.zero_le _, rfl, HPB24, Lib.hid (by simp), Lib.hid (by have := HL24.out; omega)⟩
            case round =>
              obtain ⟨m, G, hm, rfl, HPG, HGE, HGL⟩ := hrel
              obtain ⟨wg, rfl⟩ : ∃ wg : World, wg = wr := ⟨_, rfl⟩
              obtain ⟨ga3, gc3, rfl, _⟩ := owns_shape HPG.out.own
              have HMG := Lib.hid (show More w wg from more_of (by rw [← HN.out]; exact HPG.out.low))
              have han := HXS.out.2.2.2
              by_cases hmt : m < an
              · have hml : m < al.length := by rw [HAN.out]; exact hmt
                obtain ⟨b2, off2, hxx, _, hc⟩ := HAT.out.row.atC aC_len hml
                subst hxx
                have e0 := HMG.out.cell (hc 0 (.int .i64 al[m].2.tk) rfl)
                have e1 := HMG.out.cell (hc 1 (.int .i64 al[m].2.hd) rfl)
                have e2 := HMG.out.cell (hc 2 (al[m].1) rfl)
                rw [Nat.add_zero] at e0
                clear hc
                have hmem := List.getElem_mem hml
                have HYA := Lib.hid (HAT.out.arg _ hmem)
                have hr := HAR.out _ hmem
                have htk := HTK.out _ hmem
                have HYI := Lib.hid (HAI.out _ hmem)
                have HT2 := Lib.hid (show al.take (m + 1) = al.take m ++ [al[m]] from List.take_succ_eq_append_getElem hml)
                have HMT := Lib.hid hmt
                clear hmem
                generalize al[m] = y at *
                clear hml
                obtain ⟨yv, ⟨tk, hd, yl⟩⟩ := y
                dsimp only at hr htk e0 e1 e2
                have HS200 := HSM.out.1
                obtain ⟨nt, hnt⟩ : ∃ n : Nat, tk = n := ⟨tk.toNat, by omega⟩
                obtain ⟨nh, hnh⟩ : ∃ n : Nat, hd = n := ⟨hd.toNat, by omega⟩
                subst hnt hnh
                obtain ⟨ya, yc, hyv, _⟩ := HYA.out.1.shape
                dsimp only at hyv
                subst hyv
                obtain ⟨yn, HYN⟩ : ∃ yn, Hid (yl.length = yn) := ⟨_, Lib.hid rfl⟩
                rw [HYN.out] at e2 hr
                have HYS := Lib.hid (show nt ≤ 200 ∧ nh ≤ 8 ∧ yn ≤ 4 by omega)
                clear hr htk HS200
                have hbe := cell_lt e0
                have HYB := Lib.hid (alloc_last wg (.cells #[.int .i64 nt, .int .i64 nh, .slice ya yn yc] 72))
                have HMY := Lib.hid (more_alloc wg (.cells #[.int .i64 nt, .int .i64 nh, .slice ya yn yc] 72))
                go_upto_region 22 with (fail)
                clear e0 e1 e2 hbe
                generalize wg.alloc (.cells #[.int .i64 nt, .int .i64 nh, .slice ya yn yc] 72) = w30 at *
                obtain ⟨XB, HYE⟩ : ∃ YB, Hid (YB = wg.heap.size) := ⟨_, Lib.hid rfl⟩
                rw [← HYE.out] at HYB ⊢
                have HP30 := Lib.hid (HPG.out.more HMY.out)
                have HPD := Lib.hid (HP30.out.more (more_drew w30))
                have HXD := Lib.hid (show w30.drew.heap[XB]? = some (.cells #[.int .i64 nt, .int .i64 nh, .slice ya yn yc] 72) from HYB.out)
                clear HK2
                have HK2 := Lib.hid (show ∀ W : World, W.heap[XB]? = some (.cells #[.int .i64 nt, .int .i64 nh, .slice ya yn yc] 72) → (W.cell? ⟨XB, 0, none⟩ = some (.int .i64 nt) ∧ W.cell? ⟨XB, 1, none⟩ = some (.int .i64 nh) ∧ W.cell? ⟨XB, 2, none⟩ = some (.slice ya yn yc)) from fun W h => ⟨cell_of_blk h rfl, cell_of_blk h rfl, cell_of_blk h rfl⟩)
                have hbx := blk_lt HYB.out
                refine wp_region_held_drew (S := fun W => W.cell? ⟨XB, 0, none⟩ = some (.int .i64 nt) ∧ W.cell? ⟨XB, 1, none⟩ = some (.int .i64 nh) ∧ W.cell? ⟨XB, 2, none⟩ = some (.slice ya yn yc)) (by kernel_rfl) (HK2.out _ HXD.out) (fun hHeld => ?_)
                refine wpAnyH_take (i := 0) (v := ?_) (by simp only [List.getElem?_toArray, List.getElem?_cons_zero]; exact rfl) (by kernel_rfl) (by kernel_rfl) (by kernel_rfl) (by exact fun _ _ _ h => h) (Or.inl ⟨by kernel_rfl, ?_⟩) hHeld ?_
                rotate_left
                · intro w hSw
                  (try dsimp only at hSw)
                  first | (go_simp; done) | (go_simp; with_reducible rfl)
                (try simp only [Act.put, List.setIfInBounds_toArray, List.set_cons_zero, List.set_cons_succ])
                refine wpAnyH_take (i := 1) (v := ?_) (by simp only [List.getElem?_toArray, List.getElem?_cons_succ, List.getElem?_cons_zero]; exact rfl) (by kernel_rfl) (by kernel_rfl) (by kernel_rfl) (by exact fun _ _ _ h => h) (Or.inl ⟨by kernel_rfl, ?_⟩) hHeld ?_
                rotate_left
                · intro w hSw
                  (try dsimp only at hSw)
                  first | (go_simp; done) | (go_simp; with_reducible rfl)
                (try simp only [Act.put, List.setIfInBounds_toArray, List.set_cons_zero, List.set_cons_succ])
                refine wpAnyH_take (i := 2) (v := ?_) (by simp only [List.getElem?_toArray, List.getElem?_cons_succ, List.getElem?_cons_zero]; exact rfl) (by kernel_rfl) (by kernel_rfl) (by kernel_rfl) (by exact fun _ _ _ h => h) (Or.inl ⟨by kernel_rfl, ?_⟩) hHeld ?_
                rotate_left
                · intro w hSw
                  (try dsimp only at hSw)
                  first | (go_simp; done) | (go_simp; with_reducible rfl)
                (try simp only [Act.put, List.setIfInBounds_toArray, List.set_cons_zero, List.set_cons_succ])
                refine wpAnyH_take (i := 4) (v := ?_) (by simp only [List.getElem?_toArray, List.getElem?_cons_succ, List.getElem?_cons_zero]; exact rfl) (by kernel_rfl) (by kernel_rfl) (by kernel_rfl) (by exact fun _ _ _ h => h) (Or.inl ⟨by kernel_rfl, ?_⟩) hHeld ?_
                rotate_left
                · intro w hSw
                  (try dsimp only at hSw)
                  first | (go_simp; done) | (go_simp; with_reducible rfl)
                (try simp only [Act.put, List.setIfInBounds_toArray, List.set_cons_zero, List.set_cons_succ])
                refine wpAnyH_take (i := 5) (v := ?_) (by simp only [List.getElem?_toArray, List.getElem?_cons_succ, List.getElem?_cons_zero]; exact rfl) (by kernel_rfl) (by kernel_rfl) (by kernel_rfl) (by exact fun _ _ _ h => h) (Or.inl ⟨by kernel_rfl, ?_⟩) hHeld ?_
                rotate_left
                · intro w hSw
                  (try dsimp only at hSw)
                  first | (go_simp; done) | (go_simp; with_reducible rfl)
                (try simp only [Act.put, List.setIfInBounds_toArray, List.set_cons_zero, List.set_cons_succ])
                refine wpAnyH_take (i := 7) (v := ?_) (by simp only [List.getElem?_toArray, List.getElem?_cons_succ, List.getElem?_cons_zero]; exact rfl) (by kernel_rfl) (by kernel_rfl) (by kernel_rfl) (by exact fun _ _ _ h => h) (Or.inl ⟨by kernel_rfl, ?_⟩) hHeld ?_
                rotate_left
                · intro w hSw
                  (try dsimp only at hSw)
                  first | (go_simp; done) | (go_simp; with_reducible rfl)
                (try simp only [Act.put, List.setIfInBounds_toArray, List.set_cons_zero, List.set_cons_succ])
                refine wpAnyH_take (i := 8) (v := ?_) (by simp only [List.getElem?_toArray, List.getElem?_cons_succ, List.getElem?_cons_zero]; exact rfl) (by kernel_rfl) (by kernel_rfl) (by kernel_rfl) (by exact fun _ _ _ h => h) (Or.inl ⟨by kernel_rfl, ?_⟩) hHeld ?_
                rotate_left
                · intro w hSw
                  (try dsimp only at hSw)
                  first | (go_simp; done) | (go_simp; with_reducible rfl)
                (try simp only [Act.put, List.setIfInBounds_toArray, List.set_cons_zero, List.set_cons_succ])
                refine wpAnyH_take (i := 9) (v := ?_) (by simp only [List.getElem?_toArray, List.getElem?_cons_succ, List.getElem?_cons_zero]; exact rfl) (by kernel_rfl) (by kernel_rfl) (by kernel_rfl) (by exact fun _ _ _ h => h) (Or.inl ⟨by kernel_rfl, ?_⟩) hHeld ?_
                rotate_left
                · intro w hSw
                  (try dsimp only at hSw)
                  first | (go_simp; done) | (go_simp; with_reducible rfl)
                (try simp only [Act.put, List.setIfInBounds_toArray, List.set_cons_zero, List.set_cons_succ])
                have HCB := Lib.hid (put24_any G _ nt (N + 1) w30.drew (by have := HYS.out; omega) (by have := HGL.out; have := HLT.out; have := HMT.out; have := HXS.out; omega) HPD.out.ns HPD.out.own)
                refine wpAnyH_ready (rs := [3]) (by kernel_rfl) (by simp) ?_
                refine AllReadyH.cons (by simp only [List.getElem?_toArray, List.getElem?_cons_succ, List.getElem?_cons_zero]; exact rfl) (fun K hK => ?_) AllReadyH.nil
                rw [if_pos (by kernel_rfl)]
                go_simp
                refine HCB.out.mono ?_
                rintro e w31 ⟨_, v31, rfl, ho31, hg31⟩
                have HPB31 := Lib.hid (HPD.out.grow ho31 hg31)
                have HX31 := Lib.hid (HPD.out.keep HXD.out (by decide) hg31)
                obtain ⟨va31, vc31, rfl, _⟩ := owns_shape ho31
                clear ho31 hg31
                have HL31 := Lib.hid (show (G ++ encU nt).length ≤ 11932 + j * 200 + m * 70 from by simp only [List.length_append]; have := HGL.out; have := HYS.out; have := encU_len nt (by omega); omega)
                generalize hO31 : G ++ encU nt = O31 at *
                have HO31 := Lib.hid hO31; clear hO31
                try go_wp2_with fail
                refine hK.out _ _ (HK2.out _ HX31.out) (fun hHeld => ?_)
                clear hK K HCB
                (try simp only [Act.put, List.setIfInBounds_toArray, List.set_cons_zero, List.set_cons_succ])
                have HCB := Lib.hid (put24_any O31 _ nh (N + 1) w31 (by have := HYS.out; omega) (by have := HL31.out; have := HLT.out; have := HMT.out; have := HXS.out; omega) HPB31.out.ns HPB31.out.own)
                refine wpAnyH_ready (rs := [6]) (by kernel_rfl) (by simp) ?_
                refine AllReadyH.cons (by simp only [List.getElem?_toArray, List.getElem?_cons_succ, List.getElem?_cons_zero]; exact rfl) (fun K hK => ?_) AllReadyH.nil
                rw [if_pos (by kernel_rfl)]
                go_simp
                refine HCB.out.mono ?_
                rintro e w32 ⟨_, v32, rfl, ho32, hg32⟩
                have HPB32 := Lib.hid (HPB31.out.grow ho32 hg32)
                have HX32 := Lib.hid (HPB31.out.keep HX31.out (by decide) hg32)
                obtain ⟨va32, vc32, rfl, _⟩ := owns_shape ho32
                clear ho32 hg32
                have HL32 := Lib.hid (show (O31 ++ encU nh).length ≤ 11942 + j * 200 + m * 70 from by simp only [List.length_append]; have := HL31.out; have := HYS.out; have := encU_len nh (by omega); omega)
                generalize hO32 : O31 ++ encU nh = O32 at *
                have HO32 := Lib.hid hO32; clear hO32
                try go_wp2_with fail
                refine hK.out _ _ (HK2.out _ HX32.out) (fun hHeld => ?_)
                clear hK K HCB
                (try simp only [Act.put, List.setIfInBounds_toArray, List.set_cons_zero, List.set_cons_succ])
                have HCB := Lib.hid (put24_any O32 _ yn (N + 1) w32 (by have := HYS.out; omega) (by have := HL32.out; have := HLT.out; have := HMT.out; have := HXS.out; omega) HPB32.out.ns HPB32.out.own)
                refine wpAnyH_ready (rs := [10]) (by kernel_rfl) (by simp) ?_
                refine AllReadyH.cons (by simp only [List.getElem?_toArray, List.getElem?_cons_succ, List.getElem?_cons_zero]; exact rfl) (fun K hK => ?_) AllReadyH.nil
                rw [if_pos (by kernel_rfl)]
                go_simp
                refine HCB.out.mono ?_
                rintro e w33 ⟨_, v33, rfl, ho33, hg33⟩
                have HPB33 := Lib.hid (HPB32.out.grow ho33 hg33)
                have HX33 := Lib.hid (HPB32.out.keep HX32.out (by decide) hg33)
                obtain ⟨va33, vc33, rfl, _⟩ := owns_shape ho33
                clear ho33 hg33
                have HL33 := Lib.hid (show (O32 ++ encU yn).length ≤ 11952 + j * 200 + m * 70 from by simp only [List.length_append]; have := HL32.out; have := HYS.out; have := encU_len yn (by omega); omega)
                generalize hO33 : O32 ++ encU yn = O33 at *
                have HO33 := Lib.hid hO33; clear hO33
                try go_wp2_with fail
                refine hK.out _ _ (HK2.out _ HX33.out) (fun hHeld => ?_)
                clear hK K HCB
                (try simp only [Act.put, List.setIfInBounds_toArray, List.set_cons_zero, List.set_cons_succ])
                refine wpAnyH_take (i := 11) (v := ?_) (by simp only [List.getElem?_toArray, List.getElem?_cons_succ, List.getElem?_cons_zero]; exact rfl) (by kernel_rfl) (by kernel_rfl) (by kernel_rfl) (by exact fun _ _ _ h => h) (Or.inl ⟨by kernel_rfl, ?_⟩) hHeld ?_
                rotate_left
                · intro w hSw
                  (try dsimp only at hSw)
                  first | (go_simp; done) | (go_simp; with_reducible rfl)
                (try simp only [Act.put, List.setIfInBounds_toArray, List.set_cons_zero, List.set_cons_succ])
                refine wpAnyH_done (by kernel_rfl) ?_ _
                clear hbx
                have x2 : w33.cell? ⟨XB, 2, none⟩ = some (.slice ya yn yc) := cell_of_blk HX33.out rfl
                have hbx := cell_lt x2
                have hyn := HYS.out.2.2
                go_wp2_with fail
                clear x2 hbx
                go_loopw [3, 118] (fun p i wr => ∃ (t : Nat) (D : List Int), t ≤ yn ∧ i = .int .i64 t ∧ Hid (PR N w arr wr D p) ∧ Hid (D = O33 ++ (yl.take t).flatMap fun v => encU (zz v)) ∧ Hid (D.length ≤ 11952 + j * 200 + m * 70 + t * 10)) (fun _ i _ => yn - (intOf i).toNat)
                case atStart => exact ⟨0, O33, Nat.zero_le _, rfl, HPB33, Lib.hid (by simp), Lib.hid (by have := HL33.out; omega)⟩
                case round =>
                  obtain ⟨t, D, ht, rfl, HPD, HDE, HDL⟩ := hrel
                  obtain ⟨wd, rfl⟩ : ∃ wd : World, wd = wr := ⟨_, rfl⟩
                  obtain ⟨da, dc, rfl, _⟩ := owns_shape HPD.out.own
                  have HMD := Lib.hid (show More w wd from more_of (by rw [← HN.out]; exact HPD.out.low))
                  have hyn := HYS.out.2.2
                  by_cases htt : t < yn
                  · have htl : t < yl.length := by rw [HYN.out]; exact htt
                    obtain ⟨b3, off3, hyy, _, hc⟩ := HYA.out.1.atC nC_len htl
                    subst hyy
                    have e0 := HMD.out.cell (hc 0 (.int .i64 yl[t]) rfl)
                    rw [Nat.add_zero, Nat.mul_one] at e0
                    clear hc
                    have hi9 := HYI.out _ (List.getElem_mem htl)
                    have HT3 := Lib.hid (show yl.take (t + 1) = yl.take t ++ [yl[t]] from List.take_succ_eq_append_getElem htl)
                    have HTT := Lib.hid htt
                    generalize yl[t] = g at *
                    clear htl
                    have hbe := cell_lt e0
                    have HCZ := Lib.hid (zz26_any g wd hi9)
                    have HZ := Lib.hid (show zz g < 18446744073709551616 from zz_lt hi9.1 hi9.2)
                    have HCP := Lib.hid (put25_any (zz g) wd HZ.out)
                    have HEL := Lib.hid (encU_len (zz g) HZ.out)
                    clear hi9
                    go_wp2_with fail
                    refine HCZ.out.mono ?_
                    rintro e wz ⟨rfl, rfl⟩
                    obtain ⟨zn, HZN⟩ : ∃ z, Hid (zz g = z) := ⟨_, Lib.hid rfl⟩
                    rw [HZN.out] at HCP HEL ⊢
                    go_wp2_with fail
                    refine HCP.out.mono ?_
                    rintro e w40 ⟨⟨pv, rfl, hpo⟩, hpb⟩
                    have HPX := Lib.hid (HPD.out.more (more_of hpb))
                    obtain ⟨pa, pc, rfl, _⟩ := owns_shape hpo
                    have HRW := Lib.hid ((Row.of_owns hpo).mono (S' := anyB) (fun _ _ => trivial) (fun _ _ _ _ h => h))
                    have HNI := Lib.hid (owns_nil hpo)
                    clear hpo hpb HCP HCZ e0 hbe
                    obtain ⟨EZ, HEZ⟩ : ∃ E, Hid (encU zn = E) := ⟨_, Lib.hid rfl⟩
                    rw [HEZ.out] at HRW HNI HEL
                    obtain ⟨ez, HEZN⟩ : ∃ n, Hid (EZ.length = n) := ⟨_, Lib.hid rfl⟩
                    rw [HEZ.out]
                    rw [HEZN.out] at HRW HNI HEL ⊢
                    have HR2 := Lib.hid (show D.length + ez ≤ maxLen ∧ (D.length + ez) * 1 ≤ 140737488355328 from by unfold maxLen; have := HEL.out; have := HDL.out; have := HTT.out; have := HMT.out; have := HLT.out; have := HXS.out; have := HYS.out; omega)
                    go_wp2_with (at_builtin; refine wpList_append_rowC rfl _ _ 26 rfl (N + 1) 5 i0 _ 1 1 Tryz.underlying26 hi0 hz0 hz1 hz2 rfl (by omega) (.slice da D.length dc) D.length (bV D) rfl HPX.out.own (.slice pa ez pc) ez (bV EZ) rfl HRW.out HNI.out (bV_one _) HR2.out.1 HR2.out.2 HPX.out.ns ?_; intro v40 w41 hown hgrow; obtain ⟨va40, vc40, rfl, _⟩ := owns_shape hown; have HPB40 := Lib.hid (HPX.out.grow (Q := D ++ EZ) (by rw [bV_append, List.length_append, HEZN.out]; exact hown) hgrow); clear hown hgrow)
                    have hl9 : (D ++ EZ).length = D.length + ez := by rw [List.length_append, HEZN.out]
                    have HL40 := Lib.hid (show (D ++ EZ).length ≤ 11952 + j * 200 + m * 70 + (t + 1) * 10 from by rw [hl9]; have := HDL.out; have := HEL.out; omega)
                    rw [← hl9] at HPB40 ⊢
                    generalize hO40 : D ++ EZ = O40 at *
                    have HO40 := Lib.hid hO40; clear hO40 hl9
                    have htt9 := HTT.out
                    try go_wp2_with fail
                    go_roundw
                    case rel => exact ⟨t + 1, O40, by have := HTT.out; omega, by go_num, HPB40, Lib.hid (by rw [HT3.out, List.flatMap_append, List.flatMap_cons, List.flatMap_nil, List.append_nil, ← List.append_assoc, ← HDE.out, HZN.out, HEZ.out, HO40.out]), HL40⟩
                    case measure => have := HTT.out; simp [intOf]; omega
                  · obtain rfl : t = yn := by omega
                    rw [List.take_of_length_le (by rw [HYN.out]; exact Nat.le_refl _)] at HDE
                    have HDL2 := Lib.hid (show D.length ≤ 11922 + j * 200 + (m + 1) * 70 by have := HDL.out; have := HYS.out; omega)
                    clear htt ht HDL
                    have hmt9 := HMT.out
                    go_wp2_with fail
                    go_roundw
                    case rel => exact ⟨m + 1, D, by have := HMT.out; omega, by go_num, HPD, Lib.hid (by rw [HT2.out, List.flatMap_append, List.flatMap_cons, List.flatMap_nil, List.append_nil, ← List.append_assoc, ← HGE.out, HDE.out, ← HO33.out, ← HO32.out, ← HO31.out]; simp [encAr, HYN.out, List.append_assoc]), HDL2⟩
                    case measure => have := HMT.out; simp [intOf]; omega
              · obtain rfl : m = an := by omega
                rw [List.take_of_length_le (by rw [HAN.out]; exact Nat.le_refl _)] at HGE
                have HGL2 := Lib.hid (show G.length ≤ 11882 + (j + 1) * 200 by have := HGL.out; have := HXS.out; omega)
                clear hmt hm HGL
                have hlt9 := HLT.out
                go_wp2_with fail
                go_roundw
                case rel => exact ⟨j + 1, G, by have := HLT.out; omega, by go_num, HPG, Lib.hid (by rw [HT.out, List.flatMap_append, List.flatMap_cons, List.flatMap_nil, List.append_nil, ← List.append_assoc, ← HQE.out, HGE.out, ← HO24.out, ← HO23.out, ← HO22.out, ← HO21.out]; simp [encHo, HAN.out, List.append_assoc]), HGL2⟩
                case measure => have := HLT.out; simp [intOf]; omega
          · obtain rfl : j = H.length := by omega
            rw [List.take_of_length_le (Nat.le_refl _)] at HQE
            have HL30 := Lib.hid (show Q.length ≤ 12282 by have := HQL.out; have := HSM.out.2.2.2.2.2; omega)
            clear hlt hj HQL
            go_upto_region 30 with (fail)
            have HK2 := Lib.hid (show ∀ W : World, W.heap[N]? = some (.cells arr 42) → (W.cell? ⟨N, 38, none⟩ = some (.int .i64 wn) ∧ W.cell? ⟨N, 39, none⟩ = some (.int .i64 sn)) from fun W h => ⟨cell_of_blk h h38.out, cell_of_blk h h39.out⟩)
            have HPD := Lib.hid (HPQ.out.more (more_drew wq))
            have HXS := Lib.hid (show wn ≤ 2 ∧ sn ≤ 200 from ⟨HSM.out.2.1, HSM.out.2.2.1⟩)
            have hbx := blk_lt HPQ.out.box
            refine wp_region_held_drew (S := fun W => W.cell? ⟨N, 38, none⟩ = some (.int .i64 wn) ∧ W.cell? ⟨N, 39, none⟩ = some (.int .i64 sn)) (by kernel_rfl) (HK2.out _ HPD.out.box) (fun hHeld => ?_)
            refine wpAnyH_take (i := 0) (v := ?_) (by simp only [List.getElem?_toArray, List.getElem?_cons_zero]; exact rfl) (by kernel_rfl) (by kernel_rfl) (by kernel_rfl) (by exact fun _ _ _ h => h) (Or.inl ⟨by kernel_rfl, ?_⟩) hHeld ?_
            rotate_left
            · intro w hSw
              (try dsimp only at hSw)
              first | (go_simp; done) | (go_simp; with_reducible rfl)
            (try simp only [Act.put, List.setIfInBounds_toArray, List.set_cons_zero, List.set_cons_succ])
            refine wpAnyH_take (i := 1) (v := ?_) (by simp only [List.getElem?_toArray, List.getElem?_cons_succ, List.getElem?_cons_zero]; exact rfl) (by kernel_rfl) (by kernel_rfl) (by kernel_rfl) (by exact fun _ _ _ h => h) (Or.inl ⟨by kernel_rfl, ?_⟩) hHeld ?_
            rotate_left
            · intro w hSw
              (try dsimp only at hSw)
              first | (go_simp; done) | (go_simp; with_reducible rfl)
            (try simp only [Act.put, List.setIfInBounds_toArray, List.set_cons_zero, List.set_cons_succ])
            refine wpAnyH_take (i := 2) (v := ?_) (by simp only [List.getElem?_toArray, List.getElem?_cons_succ, List.getElem?_cons_zero]; exact rfl) (by kernel_rfl) (by kernel_rfl) (by kernel_rfl) (by exact fun _ _ _ h => h) (Or.inl ⟨by kernel_rfl, ?_⟩) hHeld ?_
            rotate_left
            · intro w hSw
              (try dsimp only at hSw)
              first | (go_simp; done) | (go_simp; with_reducible rfl)
            (try simp only [Act.put, List.setIfInBounds_toArray, List.set_cons_zero, List.set_cons_succ])
            refine wpAnyH_take (i := 4) (v := ?_) (by simp only [List.getElem?_toArray, List.getElem?_cons_succ, List.getElem?_cons_zero]; exact rfl) (by kernel_rfl) (by kernel_rfl) (by kernel_rfl) (by exact fun _ _ _ h => h) (Or.inl ⟨by kernel_rfl, ?_⟩) hHeld ?_
            rotate_left
            · intro w hSw
              (try dsimp only at hSw)
              first | (go_simp; done) | (go_simp; with_reducible rfl)
            (try simp only [Act.put, List.setIfInBounds_toArray, List.set_cons_zero, List.set_cons_succ])
            refine wpAnyH_take (i := 5) (v := ?_) (by simp only [List.getElem?_toArray, List.getElem?_cons_succ, List.getElem?_cons_zero]; exact rfl) (by kernel_rfl) (by kernel_rfl) (by kernel_rfl) (by exact fun _ _ _ h => h) (Or.inl ⟨by kernel_rfl, ?_⟩) hHeld ?_
            rotate_left
            · intro w hSw
              (try dsimp only at hSw)
              first | (go_simp; done) | (go_simp; with_reducible rfl)
            (try simp only [Act.put, List.setIfInBounds_toArray, List.set_cons_zero, List.set_cons_succ])
            have HCB := Lib.hid (put24_any Q _ wn (N + 1) wq.drew (by have := HXS.out; omega) (by have := HL30.out; omega) HPD.out.ns HPD.out.own)
            refine wpAnyH_ready (rs := [3]) (by kernel_rfl) (by simp) ?_
            refine AllReadyH.cons (by simp only [List.getElem?_toArray, List.getElem?_cons_succ, List.getElem?_cons_zero]; exact rfl) (fun K hK => ?_) AllReadyH.nil
            rw [if_pos (by kernel_rfl)]
            go_simp
            refine HCB.out.mono ?_
            rintro e w51 ⟨_, v51, rfl, ho51, hg51⟩
            have HPB51 := Lib.hid (HPD.out.grow ho51 hg51)
            obtain ⟨va51, vc51, rfl, _⟩ := owns_shape ho51
            clear ho51 hg51
            have HL51 := Lib.hid (show (Q ++ encU wn).length ≤ 12292 from by simp only [List.length_append]; have := HL30.out; have := HXS.out; have := encU_len wn (by omega); omega)
            generalize hO51 : Q ++ encU wn = O51 at *
            have HO51 := Lib.hid hO51; clear hO51
            try go_wp2_with fail
            refine hK.out _ _ (HK2.out _ HPB51.out.box) (fun hHeld => ?_)
            clear hK K HCB
            (try simp only [Act.put, List.setIfInBounds_toArray, List.set_cons_zero, List.set_cons_succ])
            have HCB := Lib.hid (put24_any O51 _ sn (N + 1) w51 (by have := HXS.out; omega) (by have := HL51.out; omega) HPB51.out.ns HPB51.out.own)
            refine wpAnyH_ready (rs := [6]) (by kernel_rfl) (by simp) ?_
            refine AllReadyH.cons (by simp only [List.getElem?_toArray, List.getElem?_cons_succ, List.getElem?_cons_zero]; exact rfl) (fun K hK => ?_) AllReadyH.nil
            rw [if_pos (by kernel_rfl)]
            go_simp
            refine HCB.out.mono ?_
            rintro e w52 ⟨_, v52, rfl, ho52, hg52⟩
            have HPB52 := Lib.hid (HPB51.out.grow ho52 hg52)
            obtain ⟨va52, vc52, rfl, _⟩ := owns_shape ho52
            clear ho52 hg52
            have HL52 := Lib.hid (show (O51 ++ encU sn).length ≤ 12302 from by simp only [List.length_append]; have := HL51.out; have := HXS.out; have := encU_len sn (by omega); omega)
            generalize hO52 : O51 ++ encU sn = O52 at *
            have HO52 := Lib.hid hO52; clear hO52
            try go_wp2_with fail
            refine hK.out _ _ (HK2.out _ HPB52.out.box) (fun hHeld => ?_)
            clear hK K HCB
            (try simp only [Act.put, List.setIfInBounds_toArray, List.set_cons_zero, List.set_cons_succ])
            refine wpAnyH_take (i := 7) (v := ?_) (by simp only [List.getElem?_toArray, List.getElem?_cons_succ, List.getElem?_cons_zero]; exact rfl) (by kernel_rfl) (by kernel_rfl) (by kernel_rfl) (by exact fun _ _ _ h => h) (Or.inl ⟨by kernel_rfl, ?_⟩) hHeld ?_
            rotate_left
            · intro w hSw
              (try dsimp only at hSw)
              first | (go_simp; done) | (go_simp; with_reducible rfl)
            (try simp only [Act.put, List.setIfInBounds_toArray, List.set_cons_zero, List.set_cons_succ])
            refine wpAnyH_done (by kernel_rfl) ?_ _
            go_wp2_with fail
            go_ret
            have hfin : O52 = R := by
              rw [HR.out, ← HO52.out, ← HO51.out, HQE.out, ← HO20.out, HOE.out, ← HO9.out, ← HO8.out, ← HO7.out, ← HO6.out, ← HO5.out, ← HO2.out, ← HO1.out]
              simp [encCt, encCs, List.append_assoc, qB_len, HQN.out, HES.out, HEN.out]
            subst hfin
            exact ⟨⟨_, rfl, owns_base HPB52.out.own (by omega)⟩, HPB52.out.low⟩
  · clear n32 hbn
    have hcv := run_bytes_of_string (P := Tryz.prog) w3.drew 9 26 5 q Tryz.underlying9 Tryz.underlying26 Tryz.underlying5
    obtain ⟨qc, HQC⟩ : ∃ qc, Hid (grownCap w3.drew q.size 0 5 = qc) := ⟨_, Lib.hid rfl⟩
    rw [HQC.out] at hcv
    have HQG := Lib.hid (show q.size ≤ qc by rw [← HQC.out]; exact grownCap_ge _ _ _ _)
    have HQM := Lib.hid (show More w3.drew (w3.drew.drew.alloc (.cells (bytesRow q qc) 5 ((bytesRow q qc).size, (bytesRow q qc).size + 1))) from more_trans (more_drew _) (more_alloc _ _))
    have HQA := Lib.hid (alloc_last w3.drew.drew (.cells (bytesRow q qc) 5 ((bytesRow q qc).size, (bytesRow q qc).size + 1)))
    have hdz : w3.drew.drew.heap.size = w3.drew.heap.size := rfl
    rw [hdz] at HQA
    clear hdz
    generalize w3.drew.drew.alloc (.cells (bytesRow q qc) 5 ((bytesRow q qc).size, (bytesRow q qc).size + 1)) = w4x at *
    have HQE := Lib.hid (show ∀ z, (.slice ga 33 gc : Value).ownBlock = some z → z < w3.drew.heap.size from fun z hz => (HPD.out.own.lt z hz).2)
    generalize w3.drew.heap.size = QB at *
    have HPB3 := Lib.hid (HPD.out.more HQM.out)
    rw [if_pos (by kernel_rfl)]
    go_simp
    try rw [HQN.out]
    have K3 := cell_of_blk HPB3.out.box h32.out
    refine hK.out _ _ K3 (fun hHeld => ?_)
    clear hK K hcv
    (try simp only [Act.put, List.setIfInBounds_toArray, List.set_cons_zero, List.set_cons_succ])
    refine wpAnyH_ready (rs := [4]) (by kernel_rfl) (by simp) ?_
    refine AllReadyH.cons (by simp only [List.getElem?_toArray, List.getElem?_cons_succ, List.getElem?_cons_zero]; exact rfl) (fun K hK => ?_) AllReadyH.nil
    have HCB := Lib.hid (put24_any O1 _ qn (N + 1) w4x (by omega) (by have := HL1.out; omega) HPB3.out.ns HPB3.out.own)
    rw [if_pos (by kernel_rfl)]
    go_simp
    refine HCB.out.mono ?_
    rintro e w4 ⟨_, v2, rfl, ho2, hg2⟩
    have HPB2 := Lib.hid (HPB3.out.grow ho2 hg2)
    have HQA2 := Lib.hid (HPB3.out.keepB HQA.out HQE.out hg2)
    obtain ⟨va2, vc2, rfl, _⟩ := owns_shape ho2
    clear ho2 hg2 HCB
    have HL2 := Lib.hid (show (O1 ++ encU qn).length ≤ 43 from by simp only [List.length_append]; have := HL1.out; have := encU_len qn (by omega); omega)
    generalize hO2 : O1 ++ encU qn = O2 at *
    have HO2 := Lib.hid hO2; clear hO2
    clear HQA
    have HQA := HQA2; clear HQA2
    have K2 := cell_of_blk HPB2.out.box h32.out
    try go_wp2_with fail
    refine hK.out _ _ K2 (fun hHeld => ?_)
    clear hK K HQE
    (try simp only [Act.put, List.setIfInBounds_toArray, List.set_cons_zero, List.set_cons_succ])
    have HRW := Lib.hid (bytes_blk HQA.out HQG.out)
    rw [HQN.out] at HRW
    refine wpAnyH_ready (rs := [8]) (by kernel_rfl) (by simp) ?_
    refine AllReadyH.cons (by simp only [List.getElem?_toArray, List.getElem?_cons_succ, List.getElem?_cons_zero]; exact rfl) (fun K hK => ?_) AllReadyH.nil
    refine step_append_rowC rfl _ _ 26 rfl (N + 1) 5 i0 _ 1 1 Tryz.underlying26 hi0 hz0 hz1 hz2 rfl (by omega) _ _ _ rfl HPB2.out.own _ qn _ rfl HRW.out (fun n c e => by cases e) (bV_one _) (by unfold maxLen; have := HL2.out; omega) (by have := HL2.out; omega) HPB2.out.ns (fun v5 w5 hown5 hgrow5 => ?_)
    obtain ⟨va5, vc5, rfl, _⟩ := owns_shape hown5
    have HPB5 := Lib.hid (HPB2.out.grow (Q := O2 ++ qB q) (v' := .slice va5 (O2.length + qn) vc5) (by rw [List.length_append, qB_len, HQN.out, bV_append]; exact hown5) hgrow5)
    clear hown5 hgrow5 HRW HQA
    have hl5 : (O2 ++ qB q).length = O2.length + qn := by rw [List.length_append, qB_len, HQN.out]
    rw [← hl5] at HPB5 ⊢
    have HL5 := Lib.hid (show (O2 ++ qB q).length ≤ 2043 by have := HL2.out; omega)
    clear hl5
    generalize hO5 : O2 ++ qB q = O5 at *
    have HO5 := Lib.hid hO5; clear hO5
    have K5 := cell_of_blk HPB5.out.box h32.out
    refine hK.out _ _ K5 (fun hHeld => ?_)
    clear hK K
    (try simp only [Act.put, List.setIfInBounds_toArray, List.set_cons_zero, List.set_cons_succ])
    refine wpAnyH_take (i := 9) (v := ?_) (by simp only [List.getElem?_toArray, List.getElem?_cons_succ, List.getElem?_cons_zero]; exact rfl) (by kernel_rfl) (by kernel_rfl) (by kernel_rfl) (by exact fun _ _ _ h => h) (Or.inl ⟨by kernel_rfl, ?_⟩) hHeld ?_
    rotate_left
    · intro w hSw
      (try dsimp only at hSw)
      first | (go_simp; done) | (go_simp; with_reducible rfl)
    (try simp only [Act.put, List.setIfInBounds_toArray, List.set_cons_zero, List.set_cons_succ])
    refine wpAnyH_done (by kernel_rfl) ?_ _
    clear HPB2 HPB3 HPD HPB HQM HQC
    have n33 : w5.cell? ⟨N, 33, none⟩ = some (.int .i64 hn) := cell_of_blk HPB5.out.box h33.out
    have hbn := cell_lt n33
    have HCB := Lib.hid (put24_any O5 _ hn (N + 1) w5 (by have := HSM.out.1; omega) (by have := HL5.out; omega) HPB5.out.ns HPB5.out.own)
    go_wp2_with fail
    refine HCB.out.mono ?_
    rintro e w6 ⟨_, v6, rfl, ho6, hg6⟩
    have HPB6 := Lib.hid (HPB5.out.grow ho6 hg6)
    obtain ⟨va6, vc6, rfl, _⟩ := owns_shape ho6
    clear ho6 hg6
    have HL6 := Lib.hid (show (O5 ++ encU hn).length ≤ 2053 from by simp only [List.length_append]; have := HL5.out; have := HSM.out.1; have := encU_len hn (by omega); omega)
    generalize hO6 : O5 ++ encU hn = O6 at *
    have HO6 := Lib.hid hO6; clear hO6
    clear n33 hbn HCB
    go_upto_region 6 with (fail)
    have n34 : w6.cell? ⟨N, 34, none⟩ = some (.slice ba ES.length bc) := cell_of_blk HPB6.out.box h34.out
    have hbn := cell_lt n34
    have HPD := Lib.hid (HPB6.out.more (more_drew w6))
    obtain ⟨en, HEN⟩ : ∃ n, Hid (ES.length = n) := ⟨_, Lib.hid rfl⟩
    rw [HEN.out] at n34 h34 HBY HSL
    have hen := HSL.out
    refine wp_region_held_drew (S := fun W => W.cell? ⟨N, 34, none⟩ = some (.slice ba en bc)) (by kernel_rfl) n34 (fun hHeld => ?_)
    refine wpAnyH_take (i := 0) (v := ?_) (by simp only [List.getElem?_toArray, List.getElem?_cons_zero]; exact rfl) (by kernel_rfl) (by kernel_rfl) (by kernel_rfl) (by exact fun _ _ _ h => h) (Or.inl ⟨by kernel_rfl, ?_⟩) hHeld ?_
    rotate_left
    · intro w hSw
      (try dsimp only at hSw)
      first | (go_simp; done) | (go_simp; with_reducible rfl)
    (try simp only [Act.put, List.setIfInBounds_toArray, List.set_cons_zero, List.set_cons_succ])
    refine wpAnyH_take (i := 1) (v := ?_) (by simp only [List.getElem?_toArray, List.getElem?_cons_succ, List.getElem?_cons_zero]; exact rfl) (by kernel_rfl) (by kernel_rfl) (by kernel_rfl) (by exact fun _ _ _ h => h) (Or.inl ⟨by kernel_rfl, ?_⟩) hHeld ?_
    rotate_left
    · intro w hSw
      (try dsimp only at hSw)
      first | (go_simp; done) | (go_simp; with_reducible rfl)
    (try simp only [Act.put, List.setIfInBounds_toArray, List.set_cons_zero, List.set_cons_succ])
    refine wpAnyH_take (i := 2) (v := ?_) (by simp only [List.getElem?_toArray, List.getElem?_cons_succ, List.getElem?_cons_zero]; exact rfl) (by kernel_rfl) (by kernel_rfl) (by kernel_rfl) (by exact fun _ _ _ h => h) (Or.inl ⟨by kernel_rfl, ?_⟩) hHeld ?_
    rotate_left
    · intro w hSw
      (try dsimp only at hSw)
      first | (go_simp; done) | (go_simp; with_reducible rfl)
    (try simp only [Act.put, List.setIfInBounds_toArray, List.set_cons_zero, List.set_cons_succ])
    refine wpAnyH_take (i := 3) (v := ?_) (by simp only [List.getElem?_toArray, List.getElem?_cons_succ, List.getElem?_cons_zero]; exact rfl) (by kernel_rfl) (by kernel_rfl) (by kernel_rfl) (by exact fun _ _ _ h => h) (Or.inl ⟨by kernel_rfl, ?_⟩) hHeld ?_
    rotate_left
    · intro w hSw
      (try dsimp only at hSw)
      first | (go_simp; done) | (go_simp; with_reducible rfl)
    (try simp only [Act.put, List.setIfInBounds_toArray, List.set_cons_zero, List.set_cons_succ])
    refine wpAnyH_take (i := 5) (v := ?_) (by simp only [List.getElem?_toArray, List.getElem?_cons_succ, List.getElem?_cons_zero]; exact rfl) (by kernel_rfl) (by kernel_rfl) (by kernel_rfl) (by exact fun _ _ _ h => h) (Or.inl ⟨by kernel_rfl, ?_⟩) hHeld ?_
    rotate_left
    · intro w hSw
      (try dsimp only at hSw)
      first | (go_simp; done) | (go_simp; with_reducible rfl)
    (try simp only [Act.put, List.setIfInBounds_toArray, List.set_cons_zero, List.set_cons_succ])
    refine wpAnyH_take (i := 6) (v := ?_) (by simp only [List.getElem?_toArray, List.getElem?_cons_succ, List.getElem?_cons_zero]; exact rfl) (by kernel_rfl) (by kernel_rfl) (by kernel_rfl) (by exact fun _ _ _ h => h) (Or.inl ⟨by kernel_rfl, ?_⟩) hHeld ?_
    rotate_left
    · intro w hSw
      (try dsimp only at hSw)
      first | (go_simp; done) | (go_simp; with_reducible rfl)
    (try simp only [Act.put, List.setIfInBounds_toArray, List.set_cons_zero, List.set_cons_succ])
    refine wpAnyH_ready (rs := [4]) (by kernel_rfl) (by simp) ?_
    refine AllReadyH.cons (by simp only [List.getElem?_toArray, List.getElem?_cons_succ, List.getElem?_cons_zero]; exact rfl) (fun K hK => ?_) AllReadyH.nil
    have HCB := Lib.hid (put24_any O6 _ en (N + 1) w6.drew (by omega) (by have := HL6.out; omega) HPD.out.ns HPD.out.own)
    rw [if_pos (by kernel_rfl)]
    go_simp
    refine HCB.out.mono ?_
    clear n34 hbn
    rintro e w7 ⟨_, v7, rfl, ho7, hg7⟩
    have HPB7 := Lib.hid (HPD.out.grow ho7 hg7)
    obtain ⟨va7, vc7, rfl, _⟩ := owns_shape ho7
    clear ho7 hg7
    have HL7 := Lib.hid (show (O6 ++ encU en).length ≤ 2063 from by simp only [List.length_append]; have := HL6.out; have := encU_len en (by omega); omega)
    generalize hO7 : O6 ++ encU en = O7 at *
    have HO7 := Lib.hid hO7; clear hO7
    have K7 := cell_of_blk HPB7.out.box h34.out
    try go_wp2_with fail
    refine hK.out _ _ K7 (fun hHeld => ?_)
    clear hK K HCB
    (try simp only [Act.put, List.setIfInBounds_toArray, List.set_cons_zero, List.set_cons_succ])
    have HRW := Lib.hid (show Row anyB w7 1 en (.slice ba en bc) (bV ES) by have h := HBY.out.row.below (show Below w.heap.size w w7 by rw [← HN.out]; exact HPB7.out.low); rwa [HEN.out] at h)
    refine wpAnyH_ready (rs := [7]) (by kernel_rfl) (by simp) ?_
    refine AllReadyH.cons (by simp only [List.getElem?_toArray, List.getElem?_cons_succ, List.getElem?_cons_zero]; exact rfl) (fun K hK => ?_) AllReadyH.nil
    refine step_append_rowC rfl _ _ 26 rfl (N + 1) 5 i0 _ 1 1 Tryz.underlying26 hi0 hz0 hz1 hz2 rfl (by omega) _ _ _ rfl HPB7.out.own _ en _ rfl HRW.out HBY.out.nil (bV_one _) (by unfold maxLen; have := HL7.out; omega) (by have := HL7.out; omega) HPB7.out.ns (fun v8 w8 hown8 hgrow8 => ?_)
    obtain ⟨va8, vc8, rfl, _⟩ := owns_shape hown8
    have HPB8 := Lib.hid (HPB7.out.grow (Q := O7 ++ ES) (v' := .slice va8 (O7.length + en) vc8) (by rw [List.length_append, HEN.out, bV_append]; exact hown8) hgrow8)
    clear hown8 hgrow8 HRW
    have hl8 : (O7 ++ ES).length = O7.length + en := by rw [List.length_append, HEN.out]
    rw [← hl8] at HPB8 ⊢
    have HL8 := Lib.hid (show (O7 ++ ES).length ≤ 11769 by have := HL7.out; omega)
    clear hl8
    generalize hO8 : O7 ++ ES = O8 at *
    have HO8 := Lib.hid hO8; clear hO8
    have K8 := cell_of_blk HPB8.out.box h34.out
    refine hK.out _ _ K8 (fun hHeld => ?_)
    clear hK K
    (try simp only [Act.put, List.setIfInBounds_toArray, List.set_cons_zero, List.set_cons_succ])
    refine wpAnyH_take (i := 8) (v := ?_) (by simp only [List.getElem?_toArray, List.getElem?_cons_succ, List.getElem?_cons_zero]; exact rfl) (by kernel_rfl) (by kernel_rfl) (by kernel_rfl) (by exact fun _ _ _ h => h) (Or.inl ⟨by kernel_rfl, ?_⟩) hHeld ?_
    rotate_left
    · intro w hSw
      (try dsimp only at hSw)
      first | (go_simp; done) | (go_simp; with_reducible rfl)
    (try simp only [Act.put, List.setIfInBounds_toArray, List.set_cons_zero, List.set_cons_succ])
    refine wpAnyH_done (by kernel_rfl) ?_ _
    clear hen HPD HPB7 HPB6
    have n36 : w8.cell? ⟨N, 36, none⟩ = some (.slice ua U.length uc) := cell_of_blk HPB8.out.box h36.out
    have hbn := cell_lt n36
    have HCB := Lib.hid (put24_any O8 _ U.length (N + 1) w8 (by have := HSM.out.2.2.2.2.1; omega) (by have := HL8.out; omega) HPB8.out.ns HPB8.out.own)
    go_wp2_with fail
    refine HCB.out.mono ?_
    rintro e w9 ⟨_, v9, rfl, ho9, hg9⟩
    have HPB9 := Lib.hid (HPB8.out.grow ho9 hg9)
    obtain ⟨va9, vc9, rfl, _⟩ := owns_shape ho9
    clear ho9 hg9
    have HL9 := Lib.hid (show (O8 ++ encU U.length).length ≤ 11779 from by simp only [List.length_append]; have := HL8.out; have := HSM.out.2.2.2.2.1; have := encU_len U.length (by omega); omega)
    generalize hO9 : O8 ++ encU U.length = O9 at *
    have HO9 := Lib.hid hO9; clear hO9
    clear n36 hbn HCB
    have n36 : w9.cell? ⟨N, 36, none⟩ = some (.slice ua U.length uc) := cell_of_blk HPB9.out.box h36.out
    have hbn := cell_lt n36
    have hu3 := HSM.out.2.2.2.2.1
    go_wp2_with fail
    clear n36 hbn
    go_loopw [3, 48] (fun p i wr => ∃ (j : Nat) (O : List Int), j ≤ U.length ∧ i = .int .i64 j ∧ Hid (PR N w arr wr O p) ∧ Hid (O = O9 ++ (U.take j).flatMap encK) ∧ Hid (O.length ≤ 11779 + j * 31)) (fun _ i _ => U.length - (intOf i).toNat)
    case atStart => exact ⟨0, O9, Nat.zero_le _, rfl, HPB9, Lib.hid (by simp), Lib.hid (by have := HL9.out; omega)⟩
    case round =>
      obtain ⟨j, O, hj, rfl, HPO, HOE, HOL⟩ := hrel
      obtain ⟨wo, rfl⟩ : ∃ wo : World, wo = wr := ⟨_, rfl⟩
      obtain ⟨oa, oc, rfl, _⟩ := owns_shape HPO.out.own
      have HMW := Lib.hid (show More w wo from more_of (by rw [← HN.out]; exact HPO.out.low))
      have hu3 := HSM.out.2.2.2.2.1
      by_cases hlt : j < U.length
      · obtain ⟨b, off, rfl, _, hc⟩ := HUND.out.atC kC_len hlt
        have e0 := HMW.out.cell (hc 0 (.int .u8 U[j].kind) rfl)
        have e1 := HMW.out.cell (hc 1 (.int .i64 U[j].a) rfl)
        have e2 := HMW.out.cell (hc 2 (.int .i64 U[j].b) rfl)
        have e3 := HMW.out.cell (hc 3 (.int .i64 U[j].n) rfl)
        rw [Nat.add_zero] at e0
        clear hc
        have HKX := Lib.hid (HKO.out _ (List.getElem_mem hlt))
        have HT := Lib.hid (show U.take (j + 1) = U.take j ++ [U[j]] from List.take_succ_eq_append_getElem hlt)
        have HLT := Lib.hid hlt
        generalize U[j] = x at *
        obtain ⟨kd, xa, xb, xn⟩ := x
        obtain ⟨na, hna⟩ : ∃ n : Nat, xa = n := ⟨xa.toNat, by have := HKX.out.a0; dsimp only at this; omega⟩
        obtain ⟨nb, hnb⟩ : ∃ n : Nat, xb = n := ⟨xb.toNat, by have := HKX.out.b0; dsimp only at this; omega⟩
        obtain ⟨nn, hnn⟩ : ∃ n : Nat, xn = n := ⟨xn.toNat, by have := HKX.out.n0; dsimp only at this; omega⟩
        subst hna hnb hnn
        dsimp only at e0 e1 e2 e3
        have HXS := Lib.hid (show na ≤ 7 ∧ nb ≤ 7 ∧ nn ≤ 65535 by have h1 := HKX.out.a1; have h2 := key_small HKX.out; have h3 := HKX.out.n1; dsimp only at h1 h2 h3; omega)
        have hbe := cell_lt e0
        have HXB := Lib.hid (alloc_last wo (.cells #[.int .u8 kd, .int .i64 na, .int .i64 nb, .int .i64 nn] 53))
        have HMO := Lib.hid (more_alloc wo (.cells #[.int .u8 kd, .int .i64 na, .int .i64 nb, .int .i64 nn] 53))
        go_upto_region 11 with (fail)
        clear e0 e1 e2 e3 hbe
        generalize wo.alloc (.cells #[.int .u8 kd, .int .i64 na, .int .i64 nb, .int .i64 nn] 53) = w10 at *
        obtain ⟨XB, HXE⟩ : ∃ XB, Hid (XB = wo.heap.size) := ⟨_, Lib.hid rfl⟩
        rw [← HXE.out] at HXB ⊢
        have HP10 := Lib.hid (HPO.out.more HMO.out)
        have HPD := Lib.hid (HP10.out.more (more_drew w10))
        have HXD := Lib.hid (show w10.drew.heap[XB]? = some (.cells #[.int .u8 kd, .int .i64 na, .int .i64 nb, .int .i64 nn] 53) from HXB.out)
        have HK2 := Lib.hid (show ∀ W : World, W.heap[XB]? = some (.cells #[.int .u8 kd, .int .i64 na, .int .i64 nb, .int .i64 nn] 53) → (W.cell? ⟨XB, 0, none⟩ = some (.int .u8 kd) ∧ W.cell? ⟨XB, 1, none⟩ = some (.int .i64 na) ∧ W.cell? ⟨XB, 2, none⟩ = some (.int .i64 nb) ∧ W.cell? ⟨XB, 3, none⟩ = some (.int .i64 nn)) from fun W h => ⟨cell_of_blk h rfl, cell_of_blk h rfl, cell_of_blk h rfl, cell_of_blk h rfl⟩)
        have hbx := blk_lt HXB.out
        refine wp_region_held_drew (S := fun W => W.cell? ⟨XB, 0, none⟩ = some (.int .u8 kd) ∧ W.cell? ⟨XB, 1, none⟩ = some (.int .i64 na) ∧ W.cell? ⟨XB, 2, none⟩ = some (.int .i64 nb) ∧ W.cell? ⟨XB, 3, none⟩ = some (.int .i64 nn)) (by kernel_rfl) (HK2.out _ HXD.out) (fun hHeld => ?_)
        refine wpAnyH_take (i := 0) (v := ?_) (by simp only [List.getElem?_toArray, List.getElem?_cons_zero]; exact rfl) (by kernel_rfl) (by kernel_rfl) (by kernel_rfl) (by exact fun _ _ _ h => h) (Or.inl ⟨by kernel_rfl, ?_⟩) hHeld ?_
        rotate_left
        · intro w hSw
          (try dsimp only at hSw)
          first | (go_simp; done) | (go_simp; with_reducible rfl)
        (try simp only [Act.put, List.setIfInBounds_toArray, List.set_cons_zero, List.set_cons_succ])
        refine wpAnyH_take (i := 1) (v := ?_) (by simp only [List.getElem?_toArray, List.getElem?_cons_succ, List.getElem?_cons_zero]; exact rfl) (by kernel_rfl) (by kernel_rfl) (by kernel_rfl) (by exact fun _ _ _ h => h) (Or.inl ⟨by kernel_rfl, ?_⟩) hHeld ?_
        rotate_left
        · intro w hSw
          (try dsimp only at hSw)
          first | (go_simp; done) | (go_simp; with_reducible rfl)
        (try simp only [Act.put, List.setIfInBounds_toArray, List.set_cons_zero, List.set_cons_succ])
        refine wpAnyH_take (i := 2) (v := ?_) (by simp only [List.getElem?_toArray, List.getElem?_cons_succ, List.getElem?_cons_zero]; exact rfl) (by kernel_rfl) (by kernel_rfl) (by kernel_rfl) (by exact fun _ _ _ h => h) (Or.inl ⟨by kernel_rfl, ?_⟩) hHeld ?_
        rotate_left
        · intro w hSw
          (try dsimp only at hSw)
          first | (go_simp; done) | (go_simp; with_reducible rfl)
        (try simp only [Act.put, List.setIfInBounds_toArray, List.set_cons_zero, List.set_cons_succ])
        refine wpAnyH_take (i := 5) (v := ?_) (by simp only [List.getElem?_toArray, List.getElem?_cons_succ, List.getElem?_cons_zero]; exact rfl) (by kernel_rfl) (by kernel_rfl) (by kernel_rfl) (by exact fun _ _ _ h => h) (Or.inl ⟨by kernel_rfl, ?_⟩) hHeld ?_
        rotate_left
        · intro w hSw
          (try dsimp only at hSw)
          first | (go_simp; done) | (go_simp; with_reducible rfl)
        (try simp only [Act.put, List.setIfInBounds_toArray, List.set_cons_zero, List.set_cons_succ])
        refine wpAnyH_take (i := 6) (v := ?_) (by simp only [List.getElem?_toArray, List.getElem?_cons_succ, List.getElem?_cons_zero]; exact rfl) (by kernel_rfl) (by kernel_rfl) (by kernel_rfl) (by exact fun _ _ _ h => h) (Or.inl ⟨by kernel_rfl, ?_⟩) hHeld ?_
        rotate_left
        · intro w hSw
          (try dsimp only at hSw)
          first | (go_simp; done) | (go_simp; with_reducible rfl)
        (try simp only [Act.put, List.setIfInBounds_toArray, List.set_cons_zero, List.set_cons_succ])
        refine wpAnyH_take (i := 8) (v := ?_) (by simp only [List.getElem?_toArray, List.getElem?_cons_succ, List.getElem?_cons_zero]; exact rfl) (by kernel_rfl) (by kernel_rfl) (by kernel_rfl) (by exact fun _ _ _ h => h) (Or.inl ⟨by kernel_rfl, ?_⟩) hHeld ?_
        rotate_left
        · intro w hSw
          (try dsimp only at hSw)
          first | (go_simp; done) | (go_simp; with_reducible rfl)
        (try simp only [Act.put, List.setIfInBounds_toArray, List.set_cons_zero, List.set_cons_succ])
        refine wpAnyH_take (i := 9) (v := ?_) (by simp only [List.getElem?_toArray, List.getElem?_cons_succ, List.getElem?_cons_zero]; exact rfl) (by kernel_rfl) (by kernel_rfl) (by kernel_rfl) (by exact fun _ _ _ h => h) (Or.inl ⟨by kernel_rfl, ?_⟩) hHeld ?_
        rotate_left
        · intro w hSw
          (try dsimp only at hSw)
          first | (go_simp; done) | (go_simp; with_reducible rfl)
        (try simp only [Act.put, List.setIfInBounds_toArray, List.set_cons_zero, List.set_cons_succ])
        refine wpAnyH_take (i := 11) (v := ?_) (by simp only [List.getElem?_toArray, List.getElem?_cons_succ, List.getElem?_cons_zero]; exact rfl) (by kernel_rfl) (by kernel_rfl) (by kernel_rfl) (by exact fun _ _ _ h => h) (Or.inl ⟨by kernel_rfl, ?_⟩) hHeld ?_
        rotate_left
        · intro w hSw
          (try dsimp only at hSw)
          first | (go_simp; done) | (go_simp; with_reducible rfl)
        (try simp only [Act.put, List.setIfInBounds_toArray, List.set_cons_zero, List.set_cons_succ])
        refine wpAnyH_take (i := 12) (v := ?_) (by simp only [List.getElem?_toArray, List.getElem?_cons_succ, List.getElem?_cons_zero]; exact rfl) (by kernel_rfl) (by kernel_rfl) (by kernel_rfl) (by exact fun _ _ _ h => h) (Or.inl ⟨by kernel_rfl, ?_⟩) hHeld ?_
        rotate_left
        · intro w hSw
          (try dsimp only at hSw)
          first | (go_simp; done) | (go_simp; with_reducible rfl)
        (try simp only [Act.put, List.setIfInBounds_toArray, List.set_cons_zero, List.set_cons_succ])
        refine wpAnyH_ready (rs := [3]) (by kernel_rfl) (by simp) ?_
        refine AllReadyH.cons (by simp only [List.getElem?_toArray, List.getElem?_cons_succ, List.getElem?_cons_zero]; exact rfl) (fun K hK => ?_) AllReadyH.nil
        rw [if_pos (by kernel_rfl)]
        have HMV := Lib.hid (more_alloc w10.drew (.cells #[.int .u8 kd] 5))
        have HNW := Lib.hid (alloc_last w10.drew (.cells #[.int .u8 kd] 5))
        have HPV := Lib.hid (HPD.out.more HMV.out)
        have HXV := Lib.hid ((HMV.out.block (blk_lt HXD.out)).trans HXD.out)
        go_simp
        refine hK.out _ _ (HK2.out _ HXV.out) (fun hHeld => ?_)
        clear hK K
        (try simp only [Act.put, List.setIfInBounds_toArray, List.set_cons_zero, List.set_cons_succ])
        have HR1 := Lib.hid (show O.length + 1 ≤ maxLen ∧ (O.length + 1) * 1 ≤ 140737488355328 from by have h1 := HOL.out; have h2 := HLT.out; unfold maxLen; omega)
        have HSP := Lib.hid (HPV.out.ns)
        have HRW := Lib.hid (show Row anyB (w10.drew.alloc (.cells #[.int .u8 kd] 5)) 1 1 (.slice (some ⟨w10.drew.heap.size, 0, none⟩) 1 1) (bV [kd]) from ⟨rfl, _, _, rfl, Nat.le_refl _, fun _ => ⟨w10.drew.heap.size, 0, rfl, trivial, fun i u hi => by
            rw [Nat.zero_add]
            cases i with
            | zero => cases hi; exact cell_of_blk HNW.out rfl
            | succ i => cases hi⟩⟩)
        refine wpAnyH_ready (rs := [4]) (by kernel_rfl) (by simp) ?_
        refine AllReadyH.cons (by simp only [List.getElem?_toArray, List.getElem?_cons_succ, List.getElem?_cons_zero]; exact rfl) (fun K hK => ?_) AllReadyH.nil
        refine step_append_rowC rfl _ _ 26 rfl (N + 1) 5 i0 _ 1 1 Tryz.underlying26 hi0 hz0 hz1 hz2 rfl (by omega) _ _ _ rfl HPV.out.own _ 1 _ rfl HRW.out (fun n c e => by cases e) (bV_one _) HR1.out.1 HR1.out.2 HSP.out (fun v11 w11 hown hgrow => ?_)
        have HP11 := Lib.hid (HPV.out.grow (Q := O ++ [kd]) (v' := v11) (by rw [bV_append, List.length_append]; exact hown) hgrow)
        have HX11 := Lib.hid (HPV.out.keep HXV.out (by decide) hgrow)
        have HL16 := Lib.hid (show (O ++ [kd]).length ≤ 11780 + j * 31 by rw [List.length_append]; have := HOL.out; simp only [List.length_singleton]; omega)
        obtain ⟨ga1, gc1, rfl, _⟩ := owns_shape hown
        have hl9 : (O ++ [kd]).length = O.length + 1 := by rw [List.length_append]; rfl
        clear hown hgrow HRW HNW HMV HPV HXV
        rw [← hl9] at HP11 ⊢
        clear hl9
        generalize hO6 : O ++ [kd] = O16 at *
        have HO16 := Lib.hid hO6; clear hO6
        refine hK.out _ _ (HK2.out _ HX11.out) (fun hHeld => ?_)
        clear hK K
        (try simp only [Act.put, List.setIfInBounds_toArray, List.set_cons_zero, List.set_cons_succ])
        have HCB := Lib.hid (put24_any O16 _ na (N + 1) w11 (by have := HXS.out; omega) (by have := HL16.out; have := HLT.out; omega) HP11.out.ns HP11.out.own)
        refine wpAnyH_ready (rs := [7]) (by kernel_rfl) (by simp) ?_
        refine AllReadyH.cons (by simp only [List.getElem?_toArray, List.getElem?_cons_succ, List.getElem?_cons_zero]; exact rfl) (fun K hK => ?_) AllReadyH.nil
        rw [if_pos (by kernel_rfl)]
        go_simp
        refine HCB.out.mono ?_
        rintro e w12 ⟨_, v17, rfl, ho17, hg17⟩
        have HPB17 := Lib.hid (HP11.out.grow ho17 hg17)
        have HX17 := Lib.hid (HP11.out.keep HX11.out (by decide) hg17)
        obtain ⟨va17, vc17, rfl, _⟩ := owns_shape ho17
        clear ho17 hg17
        have HL17 := Lib.hid (show (O16 ++ encU na).length ≤ 11790 + j * 31 from by simp only [List.length_append]; have := HL16.out; have := HXS.out; have := encU_len na (by omega); omega)
        generalize hO17 : O16 ++ encU na = O17 at *
        have HO17 := Lib.hid hO17; clear hO17
        try go_wp2_with fail
        refine hK.out _ _ (HK2.out _ HX17.out) (fun hHeld => ?_)
        clear hK K HCB
        (try simp only [Act.put, List.setIfInBounds_toArray, List.set_cons_zero, List.set_cons_succ])
        have HCB := Lib.hid (put24_any O17 _ nb (N + 1) w12 (by have := HXS.out; omega) (by have := HL17.out; have := HLT.out; omega) HPB17.out.ns HPB17.out.own)
        refine wpAnyH_ready (rs := [10]) (by kernel_rfl) (by simp) ?_
        refine AllReadyH.cons (by simp only [List.getElem?_toArray, List.getElem?_cons_succ, List.getElem?_cons_zero]; exact rfl) (fun K hK => ?_) AllReadyH.nil
        rw [if_pos (by kernel_rfl)]
        go_simp
        refine HCB.out.mono ?_
        rintro e w13 ⟨_, v18, rfl, ho18, hg18⟩
        have HPB18 := Lib.hid (HPB17.out.grow ho18 hg18)
        have HX18 := Lib.hid (HPB17.out.keep HX17.out (by decide) hg18)
        obtain ⟨va18, vc18, rfl, _⟩ := owns_shape ho18
        clear ho18 hg18
        have HL18 := Lib.hid (show (O17 ++ encU nb).length ≤ 11800 + j * 31 from by simp only [List.length_append]; have := HL17.out; have := HXS.out; have := encU_len nb (by omega); omega)
        generalize hO18 : O17 ++ encU nb = O18 at *
        have HO18 := Lib.hid hO18; clear hO18
        try go_wp2_with fail
        refine hK.out _ _ (HK2.out _ HX18.out) (fun hHeld => ?_)
        clear hK K HCB
        (try simp only [Act.put, List.setIfInBounds_toArray, List.set_cons_zero, List.set_cons_succ])
        have HCB := Lib.hid (put24_any O18 _ nn (N + 1) w13 (by have := HXS.out; omega) (by have := HL18.out; have := HLT.out; omega) HPB18.out.ns HPB18.out.own)
        refine wpAnyH_ready (rs := [13]) (by kernel_rfl) (by simp) ?_
        refine AllReadyH.cons (by simp only [List.getElem?_toArray, List.getElem?_cons_succ, List.getElem?_cons_zero]; exact rfl) (fun K hK => ?_) AllReadyH.nil
        rw [if_pos (by kernel_rfl)]
        go_simp
        refine HCB.out.mono ?_
        rintro e w14 ⟨_, v19, rfl, ho19, hg19⟩
        have HPB19 := Lib.hid (HPB18.out.grow ho19 hg19)
        have HX19 := Lib.hid (HPB18.out.keep HX18.out (by decide) hg19)
        obtain ⟨va19, vc19, rfl, _⟩ := owns_shape ho19
        clear ho19 hg19
        have HL19 := Lib.hid (show (O18 ++ encU nn).length ≤ 11810 + j * 31 from by simp only [List.length_append]; have := HL18.out; have := HXS.out; have := encU_len nn (by omega); omega)
        generalize hO19 : O18 ++ encU nn = O19 at *
        have HO19 := Lib.hid hO19; clear hO19
        try go_wp2_with fail
        refine hK.out _ _ (HK2.out _ HX19.out) (fun hHeld => ?_)
        clear hK K HCB
        (try simp only [Act.put, List.setIfInBounds_toArray, List.set_cons_zero, List.set_cons_succ])
        refine wpAnyH_take (i := 14) (v := ?_) (by simp only [List.getElem?_toArray, List.getElem?_cons_succ, List.getElem?_cons_zero]; exact rfl) (by kernel_rfl) (by kernel_rfl) (by kernel_rfl) (by exact fun _ _ _ h => h) (Or.inl ⟨by kernel_rfl, ?_⟩) hHeld ?_
        rotate_left
        · intro w hSw
          (try dsimp only at hSw)
          first | (go_simp; done) | (go_simp; with_reducible rfl)
        (try simp only [Act.put, List.setIfInBounds_toArray, List.set_cons_zero, List.set_cons_succ])
        refine wpAnyH_done (by kernel_rfl) ?_ _
        have hlt9 := HLT.out
        clear hbx
        go_wp2_with fail
        go_roundw
        case rel => exact ⟨j + 1, O19, by have := HLT.out; omega, by go_num, HPB19, Lib.hid (by rw [HT.out, List.flatMap_append, List.flatMap_cons, List.flatMap_nil, List.append_nil, ← List.append_assoc, ← HOE.out, ← HO19.out, ← HO18.out, ← HO17.out, ← HO16.out]; simp [encK, List.append_assoc]), Lib.hid (by have := HL19.out; omega)⟩
        case measure => have := HLT.out; simp [intOf]; omega
      · obtain rfl : j = U.length := by omega
        rw [List.take_of_length_le (Nat.le_refl _)] at HOE
        have HL20 := Lib.hid (show O.length ≤ 11872 by have := HOL.out; omega)
        clear hlt hj HOL
        have n37 : wo.cell? ⟨N, 37, none⟩ = some (.slice ha H.length hcp) := cell_of_blk HPO.out.box h37.out
        have hbn := cell_lt n37
        have HCB := Lib.hid (put24_any O _ H.length (N + 1) wo (by have := HSM.out.2.2.2.2.2; omega) (by have := HL20.out; omega) HPO.out.ns HPO.out.own)
        go_wp2_with fail
        refine HCB.out.mono ?_
        rintro e w20 ⟨_, v20, rfl, ho20, hg20⟩
        have HPB20 := Lib.hid (HPO.out.grow ho20 hg20)
        obtain ⟨va20, vc20, rfl, _⟩ := owns_shape ho20
        clear ho20 hg20
        have HL20 := Lib.hid (show (O ++ encU H.length).length ≤ 11882 from by simp only [List.length_append]; have := HL20.out; have := HSM.out.2.2.2.2.2; have := encU_len H.length (by omega); omega)
        generalize hO20 : O ++ encU H.length = O20 at *
        have HO20 := Lib.hid hO20; clear hO20
        clear n37 hbn HCB
        have n37 : w20.cell? ⟨N, 37, none⟩ = some (.slice ha H.length hcp) := cell_of_blk HPB20.out.box h37.out
        have hbn := cell_lt n37
        have hh2 := HSM.out.2.2.2.2.2
        go_wp2_with fail
        clear n37 hbn
        go_loopw [3, 75] (fun p i wr => ∃ (j : Nat) (Q : List Int), j ≤ H.length ∧ i = .int .i64 j ∧ Hid (PR N w arr wr Q p) ∧ Hid (Q = O20 ++ (H.take j).flatMap encHo) ∧ Hid (Q.length ≤ 11882 + j * 200)) (fun _ i _ => H.length - (intOf i).toNat)
        case atStart => exact ⟨0, O20, Nat.zero_le _, rfl, HPB20, Lib.hid (by simp), Lib.hid (by have := HL20.out; omega)⟩
        case round =>
          obtain ⟨j, Q, hj, rfl, HPQ, HQE, HQL⟩ := hrel
          obtain ⟨wq, rfl⟩ : ∃ wq : World, wq = wr := ⟨_, rfl⟩
          obtain ⟨qa, qc2, rfl, _⟩ := owns_shape HPQ.out.own
          have HMW := Lib.hid (show More w wq from more_of (by rw [← HN.out]; exact HPQ.out.low))
          have hh2 := HSM.out.2.2.2.2.2
          by_cases hlt : j < H.length
          · obtain ⟨b, off, rfl, _, hc⟩ := HHOL.out.atC hC_len hlt
            have e0 := HMW.out.cell (hc 0 (.int .i64 H[j].2.m.f) rfl)
            have e1 := HMW.out.cell (hc 1 (.int .i64 H[j].2.m.t) rfl)
            have e2 := HMW.out.cell (hc 2 (.int .i64 H[j].2.m.n) rfl)
            have e3 := HMW.out.cell (hc 3 (H[j].1) rfl)
            rw [Nat.add_zero] at e0
            clear hc
            have hmem := List.getElem_mem hlt
            have HAT := Lib.hid (HEACH.out _ hmem)
            have hok := HHO.out.ok _ hmem
            have htk := HHO.out.tk _ hmem
            have HAI := Lib.hid (HHI.out _ hmem)
            have HT := Lib.hid (show H.take (j + 1) = H.take j ++ [H[j]] from List.take_succ_eq_append_getElem hlt)
            have HLT := Lib.hid hlt
            clear hmem
            generalize H[j] = x at *
            obtain ⟨xv, ⟨⟨mf, mt, mn⟩, al⟩⟩ := x
            obtain ⟨p1, p1b, p2, p2b, p3, p4, p5, p6⟩ := ho_parts hok
            dsimp only at p1 p1b p2 p2b p3 p4
            have HAR := Lib.hid (arOkb_each (by omega) p6)
            have HTK := Lib.hid htk
            clear htk hok
            obtain ⟨na, hna⟩ : ∃ n : Nat, mf = n := ⟨mf.toNat, by omega⟩
            obtain ⟨nb, hnb⟩ : ∃ n : Nat, mt = n := ⟨mt.toNat, by omega⟩
            obtain ⟨nn, hnn⟩ : ∃ n : Nat, mn = n := ⟨mn.toNat, by omega⟩
            subst hna hnb hnn
            obtain ⟨xa, xc, hxv, _⟩ := HAT.out.row.shape
            dsimp only at hxv e0 e1 e2 e3
            subst hxv
            obtain ⟨an, HAN⟩ : ∃ an, Hid (al.length = an) := ⟨_, Lib.hid rfl⟩
            rw [HAN.out] at e3 p5
            have HXS := Lib.hid (show na ≤ 8 ∧ nb ≤ 8 ∧ nn ≤ 65535 ∧ an ≤ 2 by omega)
            clear p1 p1b p2 p2b p3 p4 p5 p6
            have hbe := cell_lt e0
            have HXB := Lib.hid (alloc_last wq (.cells #[.int .i64 na, .int .i64 nb, .int .i64 nn, .slice xa an xc] 68))
            have HMO := Lib.hid (more_alloc wq (.cells #[.int .i64 na, .int .i64 nb, .int .i64 nn, .slice xa an xc] 68))
            go_upto_region 17 with (fail)
            clear e0 e1 e2 e3 hbe
            generalize wq.alloc (.cells #[.int .i64 na, .int .i64 nb, .int .i64 nn, .slice xa an xc] 68) = w21 at *
            obtain ⟨XB, HXE⟩ : ∃ XB, Hid (XB = wq.heap.size) := ⟨_, Lib.hid rfl⟩
            rw [← HXE.out] at HXB ⊢
            have HPH := Lib.hid (HPQ.out.more HMO.out)
            have HPD := Lib.hid (HPH.out.more (more_drew w21))
            have HXD := Lib.hid (show w21.drew.heap[XB]? = some (.cells #[.int .i64 na, .int .i64 nb, .int .i64 nn, .slice xa an xc] 68) from HXB.out)
            have HK2 := Lib.hid (show ∀ W : World, W.heap[XB]? = some (.cells #[.int .i64 na, .int .i64 nb, .int .i64 nn, .slice xa an xc] 68) → (W.cell? ⟨XB, 0, none⟩ = some (.int .i64 na) ∧ W.cell? ⟨XB, 1, none⟩ = some (.int .i64 nb) ∧ W.cell? ⟨XB, 2, none⟩ = some (.int .i64 nn)) from fun W h => ⟨cell_of_blk h rfl, cell_of_blk h rfl, cell_of_blk h rfl⟩)
            have hbx := blk_lt HXB.out
            refine wp_region_held_drew (S := fun W => W.cell? ⟨XB, 0, none⟩ = some (.int .i64 na) ∧ W.cell? ⟨XB, 1, none⟩ = some (.int .i64 nb) ∧ W.cell? ⟨XB, 2, none⟩ = some (.int .i64 nn)) (by kernel_rfl) (HK2.out _ HXD.out) (fun hHeld => ?_)
            refine wpAnyH_take (i := 0) (v := ?_) (by simp only [List.getElem?_toArray, List.getElem?_cons_zero]; exact rfl) (by kernel_rfl) (by kernel_rfl) (by kernel_rfl) (by exact fun _ _ _ h => h) (Or.inl ⟨by kernel_rfl, ?_⟩) hHeld ?_
            rotate_left
            · intro w hSw
              (try dsimp only at hSw)
              first | (go_simp; done) | (go_simp; with_reducible rfl)
            (try simp only [Act.put, List.setIfInBounds_toArray, List.set_cons_zero, List.set_cons_succ])
            refine wpAnyH_take (i := 1) (v := ?_) (by simp only [List.getElem?_toArray, List.getElem?_cons_succ, List.getElem?_cons_zero]; exact rfl) (by kernel_rfl) (by kernel_rfl) (by kernel_rfl) (by exact fun _ _ _ h => h) (Or.inl ⟨by kernel_rfl, ?_⟩) hHeld ?_
            rotate_left
            · intro w hSw
              (try dsimp only at hSw)
              first | (go_simp; done) | (go_simp; with_reducible rfl)
            (try simp only [Act.put, List.setIfInBounds_toArray, List.set_cons_zero, List.set_cons_succ])
            refine wpAnyH_take (i := 2) (v := ?_) (by simp only [List.getElem?_toArray, List.getElem?_cons_succ, List.getElem?_cons_zero]; exact rfl) (by kernel_rfl) (by kernel_rfl) (by kernel_rfl) (by exact fun _ _ _ h => h) (Or.inl ⟨by kernel_rfl, ?_⟩) hHeld ?_
            rotate_left
            · intro w hSw
              (try dsimp only at hSw)
              first | (go_simp; done) | (go_simp; with_reducible rfl)
            (try simp only [Act.put, List.setIfInBounds_toArray, List.set_cons_zero, List.set_cons_succ])
            refine wpAnyH_take (i := 3) (v := ?_) (by simp only [List.getElem?_toArray, List.getElem?_cons_succ, List.getElem?_cons_zero]; exact rfl) (by kernel_rfl) (by kernel_rfl) (by kernel_rfl) (by exact fun _ _ _ h => h) (Or.inl ⟨by kernel_rfl, ?_⟩) hHeld ?_
            rotate_left
            · intro w hSw
              (try dsimp only at hSw)
              first | (go_simp; done) | (go_simp; with_reducible rfl)
            (try simp only [Act.put, List.setIfInBounds_toArray, List.set_cons_zero, List.set_cons_succ])
            refine wpAnyH_take (i := 5) (v := ?_) (by simp only [List.getElem?_toArray, List.getElem?_cons_succ, List.getElem?_cons_zero]; exact rfl) (by kernel_rfl) (by kernel_rfl) (by kernel_rfl) (by exact fun _ _ _ h => h) (Or.inl ⟨by kernel_rfl, ?_⟩) hHeld ?_
            rotate_left
            · intro w hSw
              (try dsimp only at hSw)
              first | (go_simp; done) | (go_simp; with_reducible rfl)
            (try simp only [Act.put, List.setIfInBounds_toArray, List.set_cons_zero, List.set_cons_succ])
            refine wpAnyH_take (i := 6) (v := ?_) (by simp only [List.getElem?_toArray, List.getElem?_cons_succ, List.getElem?_cons_zero]; exact rfl) (by kernel_rfl) (by kernel_rfl) (by kernel_rfl) (by exact fun _ _ _ h => h) (Or.inl ⟨by kernel_rfl, ?_⟩) hHeld ?_
            rotate_left
            · intro w hSw
              (try dsimp only at hSw)
              first | (go_simp; done) | (go_simp; with_reducible rfl)
            (try simp only [Act.put, List.setIfInBounds_toArray, List.set_cons_zero, List.set_cons_succ])
            refine wpAnyH_take (i := 7) (v := ?_) (by simp only [List.getElem?_toArray, List.getElem?_cons_succ, List.getElem?_cons_zero]; exact rfl) (by kernel_rfl) (by kernel_rfl) (by kernel_rfl) (by exact fun _ _ _ h => h) (Or.inl ⟨by kernel_rfl, ?_⟩) hHeld ?_
            rotate_left
            · intro w hSw
              (try dsimp only at hSw)
              first | (go_simp; done) | (go_simp; with_reducible rfl)
            (try simp only [Act.put, List.setIfInBounds_toArray, List.set_cons_zero, List.set_cons_succ])
            refine wpAnyH_take (i := 9) (v := ?_) (by simp only [List.getElem?_toArray, List.getElem?_cons_succ, List.getElem?_cons_zero]; exact rfl) (by kernel_rfl) (by kernel_rfl) (by kernel_rfl) (by exact fun _ _ _ h => h) (Or.inl ⟨by kernel_rfl, ?_⟩) hHeld ?_
            rotate_left
            · intro w hSw
              (try dsimp only at hSw)
              first | (go_simp; done) | (go_simp; with_reducible rfl)
            (try simp only [Act.put, List.setIfInBounds_toArray, List.set_cons_zero, List.set_cons_succ])
            refine wpAnyH_take (i := 10) (v := ?_) (by simp only [List.getElem?_toArray, List.getElem?_cons_succ, List.getElem?_cons_zero]; exact rfl) (by kernel_rfl) (by kernel_rfl) (by kernel_rfl) (by exact fun _ _ _ h => h) (Or.inl ⟨by kernel_rfl, ?_⟩) hHeld ?_
            rotate_left
            · intro w hSw
              (try dsimp only at hSw)
              first | (go_simp; done) | (go_simp; with_reducible rfl)
            (try simp only [Act.put, List.setIfInBounds_toArray, List.set_cons_zero, List.set_cons_succ])
            refine wpAnyH_take (i := 11) (v := ?_) (by simp only [List.getElem?_toArray, List.getElem?_cons_succ, List.getElem?_cons_zero]; exact rfl) (by kernel_rfl) (by kernel_rfl) (by kernel_rfl) (by exact fun _ _ _ h => h) (Or.inl ⟨by kernel_rfl, ?_⟩) hHeld ?_
            rotate_left
            · intro w hSw
              (try dsimp only at hSw)
              first | (go_simp; done) | (go_simp; with_reducible rfl)
            (try simp only [Act.put, List.setIfInBounds_toArray, List.set_cons_zero, List.set_cons_succ])
            have HCB := Lib.hid (put24_any Q _ na (N + 1) w21.drew (by have := HXS.out; omega) (by have := HQL.out; have := HLT.out; omega) HPD.out.ns HPD.out.own)
            refine wpAnyH_ready (rs := [4]) (by kernel_rfl) (by simp) ?_
            refine AllReadyH.cons (by simp only [List.getElem?_toArray, List.getElem?_cons_succ, List.getElem?_cons_zero]; exact rfl) (fun K hK => ?_) AllReadyH.nil
            rw [if_pos (by kernel_rfl)]
            go_simp
            refine HCB.out.mono ?_
            rintro e w22 ⟨_, v21, rfl, ho21, hg21⟩
            have HPB21 := Lib.hid (HPD.out.grow ho21 hg21)
            have HX21 := Lib.hid (HPD.out.keep HXD.out (by decide) hg21)
            obtain ⟨va21, vc21, rfl, _⟩ := owns_shape ho21
            clear ho21 hg21
            have HL21 := Lib.hid (show (Q ++ encU na).length ≤ 11892 + j * 200 from by simp only [List.length_append]; have := HQL.out; have := HXS.out; have := encU_len na (by omega); omega)
            generalize hO21 : Q ++ encU na = O21 at *
            have HO21 := Lib.hid hO21; clear hO21
            try go_wp2_with fail
            refine hK.out _ _ (HK2.out _ HX21.out) (fun hHeld => ?_)
            clear hK K HCB
            (try simp only [Act.put, List.setIfInBounds_toArray, List.set_cons_zero, List.set_cons_succ])
            have HCB := Lib.hid (put24_any O21 _ nb (N + 1) w22 (by have := HXS.out; omega) (by have := HL21.out; have := HLT.out; omega) HPB21.out.ns HPB21.out.own)
            refine wpAnyH_ready (rs := [8]) (by kernel_rfl) (by simp) ?_
            refine AllReadyH.cons (by simp only [List.getElem?_toArray, List.getElem?_cons_succ, List.getElem?_cons_zero]; exact rfl) (fun K hK => ?_) AllReadyH.nil
            rw [if_pos (by kernel_rfl)]
            go_simp
            refine HCB.out.mono ?_
            rintro e w23 ⟨_, v22, rfl, ho22, hg22⟩
            have HPB22 := Lib.hid (HPB21.out.grow ho22 hg22)
            have HX22 := Lib.hid (HPB21.out.keep HX21.out (by decide) hg22)
            obtain ⟨va22, vc22, rfl, _⟩ := owns_shape ho22
            clear ho22 hg22
            have HL22 := Lib.hid (show (O21 ++ encU nb).length ≤ 11902 + j * 200 from by simp only [List.length_append]; have := HL21.out; have := HXS.out; have := encU_len nb (by omega); omega)
            generalize hO22 : O21 ++ encU nb = O22 at *
            have HO22 := Lib.hid hO22; clear hO22
            try go_wp2_with fail
            refine hK.out _ _ (HK2.out _ HX22.out) (fun hHeld => ?_)
            clear hK K HCB
            (try simp only [Act.put, List.setIfInBounds_toArray, List.set_cons_zero, List.set_cons_succ])
            have HCB := Lib.hid (put24_any O22 _ nn (N + 1) w23 (by have := HXS.out; omega) (by have := HL22.out; have := HLT.out; omega) HPB22.out.ns HPB22.out.own)
            refine wpAnyH_ready (rs := [12]) (by kernel_rfl) (by simp) ?_
            refine AllReadyH.cons (by simp only [List.getElem?_toArray, List.getElem?_cons_succ, List.getElem?_cons_zero]; exact rfl) (fun K hK => ?_) AllReadyH.nil
            rw [if_pos (by kernel_rfl)]
            go_simp
            refine HCB.out.mono ?_
            rintro e w24 ⟨_, v23, rfl, ho23, hg23⟩
            have HPB23 := Lib.hid (HPB22.out.grow ho23 hg23)
            have HX23 := Lib.hid (HPB22.out.keep HX22.out (by decide) hg23)
            obtain ⟨va23, vc23, rfl, _⟩ := owns_shape ho23
            clear ho23 hg23
            have HL23 := Lib.hid (show (O22 ++ encU nn).length ≤ 11912 + j * 200 from by simp only [List.length_append]; have := HL22.out; have := HXS.out; have := encU_len nn (by omega); omega)
            generalize hO23 : O22 ++ encU nn = O23 at *
            have HO23 := Lib.hid hO23; clear hO23
            try go_wp2_with fail
            refine hK.out _ _ (HK2.out _ HX23.out) (fun hHeld => ?_)
            clear hK K HCB
            (try simp only [Act.put, List.setIfInBounds_toArray, List.set_cons_zero, List.set_cons_succ])
            refine wpAnyH_take (i := 13) (v := ?_) (by simp only [List.getElem?_toArray, List.getElem?_cons_succ, List.getElem?_cons_zero]; exact rfl) (by kernel_rfl) (by kernel_rfl) (by kernel_rfl) (by exact fun _ _ _ h => h) (Or.inl ⟨by kernel_rfl, ?_⟩) hHeld ?_
            rotate_left
            · intro w hSw
              (try dsimp only at hSw)
              first | (go_simp; done) | (go_simp; with_reducible rfl)
            (try simp only [Act.put, List.setIfInBounds_toArray, List.set_cons_zero, List.set_cons_succ])
            refine wpAnyH_done (by kernel_rfl) ?_ _
            clear hbx
            have x3 : w24.cell? ⟨XB, 3, none⟩ = some (.slice xa an xc) := cell_of_blk HX23.out rfl
            have hbx := cell_lt x3
            have HCB := Lib.hid (put24_any O23 _ an (N + 1) w24 (by have := HXS.out; omega) (by have := HL23.out; have := HLT.out; omega) HPB23.out.ns HPB23.out.own)
            go_wp2_with fail
            refine HCB.out.mono ?_
            rintro e w25 ⟨_, v24, rfl, ho24, hg24⟩
            have HPB24 := Lib.hid (HPB23.out.grow ho24 hg24)
            have HX24 := Lib.hid (HPB23.out.keep HX23.out (by decide) hg24)
            obtain ⟨va24, vc24, rfl, _⟩ := owns_shape ho24
            clear ho24 hg24
            have HL24 := Lib.hid (show (O23 ++ encU an).length ≤ 11922 + j * 200 from by simp only [List.length_append]; have := HL23.out; have := HXS.out; have := encU_len an (by omega); omega)
            generalize hO24 : O23 ++ encU an = O24 at *
            have HO24 := Lib.hid hO24; clear hO24
            clear x3 hbx HCB
            have x3 : w25.cell? ⟨XB, 3, none⟩ = some (.slice xa an xc) := cell_of_blk HX24.out rfl
            have hbx := cell_lt x3
            have han := HXS.out.2.2.2
            go_wp2_with fail
            clear x3 hbx
            go_loopw [3, 100] (fun p i wr => ∃ (m : Nat) (G : List Int), m ≤ an ∧ i = .int .i64 m ∧ Hid (PR N w arr wr G p) ∧ Hid (G = O24 ++ (al.take m).flatMap encAr) ∧ Hid (G.length ≤ 11922 + j * 200 + m * 70)) (fun _ i _ => an - (intOf i).toNat)
            case atStart => exact ⟨0, O24, Nat.zero_le _, rfl, HPB24, Lib.hid (by simp), Lib.hid (by have := HL24.out; omega)⟩
            case round =>
              obtain ⟨m, G, hm, rfl, HPG, HGE, HGL⟩ := hrel
              obtain ⟨wg, rfl⟩ : ∃ wg : World, wg = wr := ⟨_, rfl⟩
              obtain ⟨ga3, gc3, rfl, _⟩ := owns_shape HPG.out.own
              have HMG := Lib.hid (show More w wg from more_of (by rw [← HN.out]; exact HPG.out.low))
              have han := HXS.out.2.2.2
              by_cases hmt : m < an
              · have hml : m < al.length := by rw [HAN.out]; exact hmt
                obtain ⟨b2, off2, hxx, _, hc⟩ := HAT.out.row.atC aC_len hml
                subst hxx
                have e0 := HMG.out.cell (hc 0 (.int .i64 al[m].2.tk) rfl)
                have e1 := HMG.out.cell (hc 1 (.int .i64 al[m].2.hd) rfl)
                have e2 := HMG.out.cell (hc 2 (al[m].1) rfl)
                rw [Nat.add_zero] at e0
                clear hc
                have hmem := List.getElem_mem hml
                have HYA := Lib.hid (HAT.out.arg _ hmem)
                have hr := HAR.out _ hmem
                have htk := HTK.out _ hmem
                have HYI := Lib.hid (HAI.out _ hmem)
                have HT2 := Lib.hid (show al.take (m + 1) = al.take m ++ [al[m]] from List.take_succ_eq_append_getElem hml)
                have HMT := Lib.hid hmt
                clear hmem
                generalize al[m] = y at *
                clear hml
                obtain ⟨yv, ⟨tk, hd, yl⟩⟩ := y
                dsimp only at hr htk e0 e1 e2
                have HS200 := HSM.out.1
                obtain ⟨nt, hnt⟩ : ∃ n : Nat, tk = n := ⟨tk.toNat, by omega⟩
                obtain ⟨nh, hnh⟩ : ∃ n : Nat, hd = n := ⟨hd.toNat, by omega⟩
                subst hnt hnh
                obtain ⟨ya, yc, hyv, _⟩ := HYA.out.1.shape
                dsimp only at hyv
                subst hyv
                obtain ⟨yn, HYN⟩ : ∃ yn, Hid (yl.length = yn) := ⟨_, Lib.hid rfl⟩
                rw [HYN.out] at e2 hr
                have HYS := Lib.hid (show nt ≤ 200 ∧ nh ≤ 8 ∧ yn ≤ 4 by omega)
                clear hr htk HS200
                have hbe := cell_lt e0
                have HYB := Lib.hid (alloc_last wg (.cells #[.int .i64 nt, .int .i64 nh, .slice ya yn yc] 72))
                have HMY := Lib.hid (more_alloc wg (.cells #[.int .i64 nt, .int .i64 nh, .slice ya yn yc] 72))
                go_upto_region 22 with (fail)
                clear e0 e1 e2 hbe
                generalize wg.alloc (.cells #[.int .i64 nt, .int .i64 nh, .slice ya yn yc] 72) = w30 at *
                obtain ⟨XB, HYE⟩ : ∃ YB, Hid (YB = wg.heap.size) := ⟨_, Lib.hid rfl⟩
                rw [← HYE.out] at HYB ⊢
                have HP30 := Lib.hid (HPG.out.more HMY.out)
                have HPD := Lib.hid (HP30.out.more (more_drew w30))
                have HXD := Lib.hid (show w30.drew.heap[XB]? = some (.cells #[.int .i64 nt, .int .i64 nh, .slice ya yn yc] 72) from HYB.out)
                clear HK2
                have HK2 := Lib.hid (show ∀ W : World, W.heap[XB]? = some (.cells #[.int .i64 nt, .int .i64 nh, .slice ya yn yc] 72) → (W.cell? ⟨XB, 0, none⟩ = some (.int .i64 nt) ∧ W.cell? ⟨XB, 1, none⟩ = some (.int .i64 nh) ∧ W.cell? ⟨XB, 2, none⟩ = some (.slice ya yn yc)) from fun W h => ⟨cell_of_blk h rfl, cell_of_blk h rfl, cell_of_blk h rfl⟩)
                have hbx := blk_lt HYB.out
                refine wp_region_held_drew (S := fun W => W.cell? ⟨XB, 0, none⟩ = some (.int .i64 nt) ∧ W.cell? ⟨XB, 1, none⟩ = some (.int .i64 nh) ∧ W.cell? ⟨XB, 2, none⟩ = some (.slice ya yn yc)) (by kernel_rfl) (HK2.out _ HXD.out) (fun hHeld => ?_)
                refine wpAnyH_take (i := 0) (v := ?_) (by simp only [List.getElem?_toArray, List.getElem?_cons_zero]; exact rfl) (by kernel_rfl) (by kernel_rfl) (by kernel_rfl) (by exact fun _ _ _ h => h) (Or.inl ⟨by kernel_rfl, ?_⟩) hHeld ?_
                rotate_left
                · intro w hSw
                  (try dsimp only at hSw)
                  first | (go_simp; done) | (go_simp; with_reducible rfl)
                (try simp only [Act.put, List.setIfInBounds_toArray, List.set_cons_zero, List.set_cons_succ])
                refine wpAnyH_take (i := 1) (v := ?_) (by simp only [List.getElem?_toArray, List.getElem?_cons_succ, List.getElem?_cons_zero]; exact rfl) (by kernel_rfl) (by kernel_rfl) (by kernel_rfl) (by exact fun _ _ _ h => h) (Or.inl ⟨by kernel_rfl, ?_⟩) hHeld ?_
                rotate_left
                · intro w hSw
                  (try dsimp only at hSw)
                  first | (go_simp; done) | (go_simp; with_reducible rfl)
                (try simp only [Act.put, List.setIfInBounds_toArray, List.set_cons_zero, List.set_cons_succ])
                refine wpAnyH_take (i := 2) (v := ?_) (by simp only [List.getElem?_toArray, List.getElem?_cons_succ, List.getElem?_cons_zero]; exact rfl) (by kernel_rfl) (by kernel_rfl) (by kernel_rfl) (by exact fun _ _ _ h => h) (Or.inl ⟨by kernel_rfl, ?_⟩) hHeld ?_
                rotate_left
                · intro w hSw
                  (try dsimp only at hSw)
                  first | (go_simp; done) | (go_simp; with_reducible rfl)
                (try simp only [Act.put, List.setIfInBounds_toArray, List.set_cons_zero, List.set_cons_succ])
                refine wpAnyH_take (i := 4) (v := ?_) (by simp only [List.getElem?_toArray, List.getElem?_cons_succ, List.getElem?_cons_zero]; exact rfl) (by kernel_rfl) (by kernel_rfl) (by kernel_rfl) (by exact fun _ _ _ h => h) (Or.inl ⟨by kernel_rfl, ?_⟩) hHeld ?_
                rotate_left
                · intro w hSw
                  (try dsimp only at hSw)
                  first | (go_simp; done) | (go_simp; with_reducible rfl)
                (try simp only [Act.put, List.setIfInBounds_toArray, List.set_cons_zero, List.set_cons_succ])
                refine wpAnyH_take (i := 5) (v := ?_) (by simp only [List.getElem?_toArray, List.getElem?_cons_succ, List.getElem?_cons_zero]; exact rfl) (by kernel_rfl) (by kernel_rfl) (by kernel_rfl) (by exact fun _ _ _ h => h) (Or.inl ⟨by kernel_rfl, ?_⟩) hHeld ?_
                rotate_left
                · intro w hSw
                  (try dsimp only at hSw)
                  first | (go_simp; done) | (go_simp; with_reducible rfl)
                (try simp only [Act.put, List.setIfInBounds_toArray, List.set_cons_zero, List.set_cons_succ])
                refine wpAnyH_take (i := 7) (v := ?_) (by simp only [List.getElem?_toArray, List.getElem?_cons_succ, List.getElem?_cons_zero]; exact rfl) (by kernel_rfl) (by kernel_rfl) (by kernel_rfl) (by exact fun _ _ _ h => h) (Or.inl ⟨by kernel_rfl, ?_⟩) hHeld ?_
                rotate_left
                · intro w hSw
                  (try dsimp only at hSw)
                  first | (go_simp; done) | (go_simp; with_reducible rfl)
                (try simp only [Act.put, List.setIfInBounds_toArray, List.set_cons_zero, List.set_cons_succ])
                refine wpAnyH_take (i := 8) (v := ?_) (by simp only [List.getElem?_toArray, List.getElem?_cons_succ, List.getElem?_cons_zero]; exact rfl) (by kernel_rfl) (by kernel_rfl) (by kernel_rfl) (by exact fun _ _ _ h => h) (Or.inl ⟨by kernel_rfl, ?_⟩) hHeld ?_
                rotate_left
                · intro w hSw
                  (try dsimp only at hSw)
                  first | (go_simp; done) | (go_simp; with_reducible rfl)
                (try simp only [Act.put, List.setIfInBounds_toArray, List.set_cons_zero, List.set_cons_succ])
                refine wpAnyH_take (i := 9) (v := ?_) (by simp only [List.getElem?_toArray, List.getElem?_cons_succ, List.getElem?_cons_zero]; exact rfl) (by kernel_rfl) (by kernel_rfl) (by kernel_rfl) (by exact fun _ _ _ h => h) (Or.inl ⟨by kernel_rfl, ?_⟩) hHeld ?_
                rotate_left
                · intro w hSw
                  (try dsimp only at hSw)
                  first | (go_simp; done) | (go_simp; with_reducible rfl)
                (try simp only [Act.put, List.setIfInBounds_toArray, List.set_cons_zero, List.set_cons_succ])
                have HCB := Lib.hid (put24_any G _ nt (N + 1) w30.drew (by have := HYS.out; omega) (by have := HGL.out; have := HLT.out; have := HMT.out; have := HXS.out; omega) HPD.out.ns HPD.out.own)
                refine wpAnyH_ready (rs := [3]) (by kernel_rfl) (by simp) ?_
                refine AllReadyH.cons (by simp only [List.getElem?_toArray, List.getElem?_cons_succ, List.getElem?_cons_zero]; exact rfl) (fun K hK => ?_) AllReadyH.nil
                rw [if_pos (by kernel_rfl)]
                go_simp
                refine HCB.out.mono ?_
                rintro e w31 ⟨_, v31, rfl, ho31, hg31⟩
                have HPB31 := Lib.hid (HPD.out.grow ho31 hg31)
                have HX31 := Lib.hid (HPD.out.keep HXD.out (by decide) hg31)
                obtain ⟨va31, vc31, rfl, _⟩ := owns_shape ho31
                clear ho31 hg31
                have HL31 := Lib.hid (show (G ++ encU nt).length ≤ 11932 + j * 200 + m * 70 from by simp only [List.length_append]; have := HGL.out; have := HYS.out; have := encU_len nt (by omega); omega)
                generalize hO31 : G ++ encU nt = O31 at *
                have HO31 := Lib.hid hO31; clear hO31
                try go_wp2_with fail
                refine hK.out _ _ (HK2.out _ HX31.out) (fun hHeld => ?_)
                clear hK K HCB
                (try simp only [Act.put, List.setIfInBounds_toArray, List.set_cons_zero, List.set_cons_succ])
                have HCB := Lib.hid (put24_any O31 _ nh (N + 1) w31 (by have := HYS.out; omega) (by have := HL31.out; have := HLT.out; have := HMT.out; have := HXS.out; omega) HPB31.out.ns HPB31.out.own)
                refine wpAnyH_ready (rs := [6]) (by kernel_rfl) (by simp) ?_
                refine AllReadyH.cons (by simp only [List.getElem?_toArray, List.getElem?_cons_succ, List.getElem?_cons_zero]; exact rfl) (fun K hK => ?_) AllReadyH.nil
                rw [if_pos (by kernel_rfl)]
                go_simp
                refine HCB.out.mono ?_
                rintro e w32 ⟨_, v32, rfl, ho32, hg32⟩
                have HPB32 := Lib.hid (HPB31.out.grow ho32 hg32)
                have HX32 := Lib.hid (HPB31.out.keep HX31.out (by decide) hg32)
                obtain ⟨va32, vc32, rfl, _⟩ := owns_shape ho32
                clear ho32 hg32
                have HL32 := Lib.hid (show (O31 ++ encU nh).length ≤ 11942 + j * 200 + m * 70 from by simp only [List.length_append]; have := HL31.out; have := HYS.out; have := encU_len nh (by omega); omega)
                generalize hO32 : O31 ++ encU nh = O32 at *
                have HO32 := Lib.hid hO32; clear hO32
                try go_wp2_with fail
                refine hK.out _ _ (HK2.out _ HX32.out) (fun hHeld => ?_)
                clear hK K HCB
                (try simp only [Act.put, List.setIfInBounds_toArray, List.set_cons_zero, List.set_cons_succ])
                have HCB := Lib.hid (put24_any O32 _ yn (N + 1) w32 (by have := HYS.out; omega) (by have := HL32.out; have := HLT.out; have := HMT.out; have := HXS.out; omega) HPB32.out.ns HPB32.out.own)
                refine wpAnyH_ready (rs := [10]) (by kernel_rfl) (by simp) ?_
                refine AllReadyH.cons (by simp only [List.getElem?_toArray, List.getElem?_cons_succ, List.getElem?_cons_zero]; exact rfl) (fun K hK => ?_) AllReadyH.nil
                rw [if_pos (by kernel_rfl)]
                go_simp
                refine HCB.out.mono ?_
                rintro e w33 ⟨_, v33, rfl, ho33, hg33⟩
                have HPB33 := Lib.hid (HPB32.out.grow ho33 hg33)
                have HX33 := Lib.hid (HPB32.out.keep HX32.out (by decide) hg33)
                obtain ⟨va33, vc33, rfl, _⟩ := owns_shape ho33
                clear ho33 hg33
                have HL33 := Lib.hid (show (O32 ++ encU yn).length ≤ 11952 + j * 200 + m * 70 from by simp only [List.length_append]; have := HL32.out; have := HYS.out; have := encU_len yn (by omega); omega)
                generalize hO33 : O32 ++ encU yn = O33 at *
                have HO33 := Lib.hid hO33; clear hO33
                try go_wp2_with fail
                refine hK.out _ _ (HK2.out _ HX33.out) (fun hHeld => ?_)
                clear hK K HCB
                (try simp only [Act.put, List.setIfInBounds_toArray, List.set_cons_zero, List.set_cons_succ])
                refine wpAnyH_take (i := 11) (v := ?_) (by simp only [List.getElem?_toArray, List.getElem?_cons_succ, List.getElem?_cons_zero]; exact rfl) (by kernel_rfl) (by kernel_rfl) (by kernel_rfl) (by exact fun _ _ _ h => h) (Or.inl ⟨by kernel_rfl, ?_⟩) hHeld ?_
                rotate_left
                · intro w hSw
                  (try dsimp only at hSw)
                  first | (go_simp; done) | (go_simp; with_reducible rfl)
                (try simp only [Act.put, List.setIfInBounds_toArray, List.set_cons_zero, List.set_cons_succ])
                refine wpAnyH_done (by kernel_rfl) ?_ _
                clear hbx
                have x2 : w33.cell? ⟨XB, 2, none⟩ = some (.slice ya yn yc) := cell_of_blk HX33.out rfl
                have hbx := cell_lt x2
                have hyn := HYS.out.2.2
                go_wp2_with fail
                clear x2 hbx
                go_loopw [3, 118] (fun p i wr => ∃ (t : Nat) (D : List Int), t ≤ yn ∧ i = .int .i64 t ∧ Hid (PR N w arr wr D p) ∧ Hid (D = O33 ++ (yl.take t).flatMap fun v => encU (zz v)) ∧ Hid (D.length ≤ 11952 + j * 200 + m * 70 + t * 10)) (fun _ i _ => yn - (intOf i).toNat)
                case atStart => exact ⟨0, O33, Nat.zero_le _, rfl, HPB33, Lib.hid (by simp), Lib.hid (by have := HL33.out; omega)⟩
                case round =>
                  obtain ⟨t, D, ht, rfl, HPD, HDE, HDL⟩ := hrel
                  obtain ⟨wd, rfl⟩ : ∃ wd : World, wd = wr := ⟨_, rfl⟩
                  obtain ⟨da, dc, rfl, _⟩ := owns_shape HPD.out.own
                  have HMD := Lib.hid (show More w wd from more_of (by rw [← HN.out]; exact HPD.out.low))
                  have hyn := HYS.out.2.2
                  by_cases htt : t < yn
                  · have htl : t < yl.length := by rw [HYN.out]; exact htt
                    obtain ⟨b3, off3, hyy, _, hc⟩ := HYA.out.1.atC nC_len htl
                    subst hyy
                    have e0 := HMD.out.cell (hc 0 (.int .i64 yl[t]) rfl)
                    rw [Nat.add_zero, Nat.mul_one] at e0
                    clear hc
                    have hi9 := HYI.out _ (List.getElem_mem htl)
                    have HT3 := Lib.hid (show yl.take (t + 1) = yl.take t ++ [yl[t]] from List.take_succ_eq_append_getElem htl)
                    have HTT := Lib.hid htt
                    generalize yl[t] = g at *
                    clear htl
                    have hbe := cell_lt e0
                    have HCZ := Lib.hid (zz26_any g wd hi9)
                    have HZ := Lib.hid (show zz g < 18446744073709551616 from zz_lt hi9.1 hi9.2)
                    have HCP := Lib.hid (put25_any (zz g) wd HZ.out)
                    have HEL := Lib.hid (encU_len (zz g) HZ.out)
                    clear hi9
                    go_wp2_with fail
                    refine HCZ.out.mono ?_
                    rintro e wz ⟨rfl, rfl⟩
                    obtain ⟨zn, HZN⟩ : ∃ z, Hid (zz g = z) := ⟨_, Lib.hid rfl⟩
                    rw [HZN.out] at HCP HEL ⊢
                    go_wp2_with fail
                    refine HCP.out.mono ?_
                    rintro e w40 ⟨⟨pv, rfl, hpo⟩, hpb⟩
                    have HPX := Lib.hid (HPD.out.more (more_of hpb))
                    obtain ⟨pa, pc, rfl, _⟩ := owns_shape hpo
                    have HRW := Lib.hid ((Row.of_owns hpo).mono (S' := anyB) (fun _ _ => trivial) (fun _ _ _ _ h => h))
                    have HNI := Lib.hid (owns_nil hpo)
                    clear hpo hpb HCP HCZ e0 hbe
                    obtain ⟨EZ, HEZ⟩ : ∃ E, Hid (encU zn = E) := ⟨_, Lib.hid rfl⟩
                    rw [HEZ.out] at HRW HNI HEL
                    obtain ⟨ez, HEZN⟩ : ∃ n, Hid (EZ.length = n) := ⟨_, Lib.hid rfl⟩
                    rw [HEZ.out]
                    rw [HEZN.out] at HRW HNI HEL ⊢
                    have HR2 := Lib.hid (show D.length + ez ≤ maxLen ∧ (D.length + ez) * 1 ≤ 140737488355328 from by unfold maxLen; have := HEL.out; have := HDL.out; have := HTT.out; have := HMT.out; have := HLT.out; have := HXS.out; have := HYS.out; omega)
                    go_wp2_with (at_builtin; refine wpList_append_rowC rfl _ _ 26 rfl (N + 1) 5 i0 _ 1 1 Tryz.underlying26 hi0 hz0 hz1 hz2 rfl (by omega) (.slice da D.length dc) D.length (bV D) rfl HPX.out.own (.slice pa ez pc) ez (bV EZ) rfl HRW.out HNI.out (bV_one _) HR2.out.1 HR2.out.2 HPX.out.ns ?_; intro v40 w41 hown hgrow; obtain ⟨va40, vc40, rfl, _⟩ := owns_shape hown; have HPB40 := Lib.hid (HPX.out.grow (Q := D ++ EZ) (by rw [bV_append, List.length_append, HEZN.out]; exact hown) hgrow); clear hown hgrow)
                    have hl9 : (D ++ EZ).length = D.length + ez := by rw [List.length_append, HEZN.out]
                    have HL40 := Lib.hid (show (D ++ EZ).length ≤ 11952 + j * 200 + m * 70 + (t + 1) * 10 from by rw [hl9]; have := HDL.out; have := HEL.out; omega)
                    rw [← hl9] at HPB40 ⊢
                    generalize hO40 : D ++ EZ = O40 at *
                    have HO40 := Lib.hid hO40; clear hO40 hl9
                    have htt9 := HTT.out
                    try go_wp2_with fail
                    go_roundw
                    case rel => exact ⟨t + 1, O40, by have := HTT.out; omega, by go_num, HPB40, Lib.hid (by rw [HT3.out, List.flatMap_append, List.flatMap_cons, List.flatMap_nil, List.append_nil, ← List.append_assoc, ← HDE.out, HZN.out, HEZ.out, HO40.out]), HL40⟩
                    case measure => have := HTT.out; simp [intOf]; omega
                  · obtain rfl : t = yn := by omega
                    rw [List.take_of_length_le (by rw [HYN.out]; exact Nat.le_refl _)] at HDE
                    have HDL2 := Lib.hid (show D.length ≤ 11922 + j * 200 + (m + 1) * 70 by have := HDL.out; have := HYS.out; omega)
                    clear htt ht HDL
                    have hmt9 := HMT.out
                    go_wp2_with fail
                    go_roundw
                    case rel => exact ⟨m + 1, D, by have := HMT.out; omega, by go_num, HPD, Lib.hid (by rw [HT2.out, List.flatMap_append, List.flatMap_cons, List.flatMap_nil, List.append_nil, ← List.append_assoc, ← HGE.out, HDE.out, ← HO33.out, ← HO32.out, ← HO31.out]; simp [encAr, HYN.out, List.append_assoc]), HDL2⟩
                    case measure => have := HMT.out; simp [intOf]; omega
              · obtain rfl : m = an := by omega
                rw [List.take_of_length_le (by rw [HAN.out]; exact Nat.le_refl _)] at HGE
                have HGL2 := Lib.hid (show G.length ≤ 11882 + (j + 1) * 200 by have := HGL.out; have := HXS.out; omega)
                clear hmt hm HGL
                have hlt9 := HLT.out
                go_wp2_with fail
                go_roundw
                case rel => exact ⟨j + 1, G, by have := HLT.out; omega, by go_num, HPG, Lib.hid (by rw [HT.out, List.flatMap_append, List.flatMap_cons, List.flatMap_nil, List.append_nil, ← List.append_assoc, ← HQE.out, HGE.out, ← HO24.out, ← HO23.out, ← HO22.out, ← HO21.out]; simp [encHo, HAN.out, List.append_assoc]), HGL2⟩
                case measure => have := HLT.out; simp [intOf]; omega
          · obtain rfl : j = H.length := by omega
            rw [List.take_of_length_le (Nat.le_refl _)] at HQE
            have HL30 := Lib.hid (show Q.length ≤ 12282 by have := HQL.out; have := HSM.out.2.2.2.2.2; omega)
            clear hlt hj HQL
            go_upto_region 30 with (fail)
            have HK2 := Lib.hid (show ∀ W : World, W.heap[N]? = some (.cells arr 42) → (W.cell? ⟨N, 38, none⟩ = some (.int .i64 wn) ∧ W.cell? ⟨N, 39, none⟩ = some (.int .i64 sn)) from fun W h => ⟨cell_of_blk h h38.out, cell_of_blk h h39.out⟩)
            have HPD := Lib.hid (HPQ.out.more (more_drew wq))
            have HXS := Lib.hid (show wn ≤ 2 ∧ sn ≤ 200 from ⟨HSM.out.2.1, HSM.out.2.2.1⟩)
            have hbx := blk_lt HPQ.out.box
            refine wp_region_held_drew (S := fun W => W.cell? ⟨N, 38, none⟩ = some (.int .i64 wn) ∧ W.cell? ⟨N, 39, none⟩ = some (.int .i64 sn)) (by kernel_rfl) (HK2.out _ HPD.out.box) (fun hHeld => ?_)
            refine wpAnyH_take (i := 0) (v := ?_) (by simp only [List.getElem?_toArray, List.getElem?_cons_zero]; exact rfl) (by kernel_rfl) (by kernel_rfl) (by kernel_rfl) (by exact fun _ _ _ h => h) (Or.inl ⟨by kernel_rfl, ?_⟩) hHeld ?_
            rotate_left
            · intro w hSw
              (try dsimp only at hSw)
              first | (go_simp; done) | (go_simp; with_reducible rfl)
            (try simp only [Act.put, List.setIfInBounds_toArray, List.set_cons_zero, List.set_cons_succ])
            refine wpAnyH_take (i := 1) (v := ?_) (by simp only [List.getElem?_toArray, List.getElem?_cons_succ, List.getElem?_cons_zero]; exact rfl) (by kernel_rfl) (by kernel_rfl) (by kernel_rfl) (by exact fun _ _ _ h => h) (Or.inl ⟨by kernel_rfl, ?_⟩) hHeld ?_
            rotate_left
            · intro w hSw
              (try dsimp only at hSw)
              first | (go_simp; done) | (go_simp; with_reducible rfl)
            (try simp only [Act.put, List.setIfInBounds_toArray, List.set_cons_zero, List.set_cons_succ])
            refine wpAnyH_take (i := 2) (v := ?_) (by simp only [List.getElem?_toArray, List.getElem?_cons_succ, List.getElem?_cons_zero]; exact rfl) (by kernel_rfl) (by kernel_rfl) (by kernel_rfl) (by exact fun _ _ _ h => h) (Or.inl ⟨by kernel_rfl, ?_⟩) hHeld ?_
            rotate_left
            · intro w hSw
              (try dsimp only at hSw)
              first | (go_simp; done) | (go_simp; with_reducible rfl)
            (try simp only [Act.put, List.setIfInBounds_toArray, List.set_cons_zero, List.set_cons_succ])
            refine wpAnyH_take (i := 4) (v := ?_) (by simp only [List.getElem?_toArray, List.getElem?_cons_succ, List.getElem?_cons_zero]; exact rfl) (by kernel_rfl) (by kernel_rfl) (by kernel_rfl) (by exact fun _ _ _ h => h) (Or.inl ⟨by kernel_rfl, ?_⟩) hHeld ?_
            rotate_left
            · intro w hSw
              (try dsimp only at hSw)
              first | (go_simp; done) | (go_simp; with_reducible rfl)
            (try simp only [Act.put, List.setIfInBounds_toArray, List.set_cons_zero, List.set_cons_succ])
            refine wpAnyH_take (i := 5) (v := ?_) (by simp only [List.getElem?_toArray, List.getElem?_cons_succ, List.getElem?_cons_zero]; exact rfl) (by kernel_rfl) (by kernel_rfl) (by kernel_rfl) (by exact fun _ _ _ h => h) (Or.inl ⟨by kernel_rfl, ?_⟩) hHeld ?_
            rotate_left
            · intro w hSw
              (try dsimp only at hSw)
              first | (go_simp; done) | (go_simp; with_reducible rfl)
            (try simp only [Act.put, List.setIfInBounds_toArray, List.set_cons_zero, List.set_cons_succ])
            have HCB := Lib.hid (put24_any Q _ wn (N + 1) wq.drew (by have := HXS.out; omega) (by have := HL30.out; omega) HPD.out.ns HPD.out.own)
            refine wpAnyH_ready (rs := [3]) (by kernel_rfl) (by simp) ?_
            refine AllReadyH.cons (by simp only [List.getElem?_toArray, List.getElem?_cons_succ, List.getElem?_cons_zero]; exact rfl) (fun K hK => ?_) AllReadyH.nil
            rw [if_pos (by kernel_rfl)]
            go_simp
            refine HCB.out.mono ?_
            rintro e w51 ⟨_, v51, rfl, ho51, hg51⟩
            have HPB51 := Lib.hid (HPD.out.grow ho51 hg51)
            obtain ⟨va51, vc51, rfl, _⟩ := owns_shape ho51
            clear ho51 hg51
            have HL51 := Lib.hid (show (Q ++ encU wn).length ≤ 12292 from by simp only [List.length_append]; have := HL30.out; have := HXS.out; have := encU_len wn (by omega); omega)
            generalize hO51 : Q ++ encU wn = O51 at *
            have HO51 := Lib.hid hO51; clear hO51
            try go_wp2_with fail
            refine hK.out _ _ (HK2.out _ HPB51.out.box) (fun hHeld => ?_)
            clear hK K HCB
            (try simp only [Act.put, List.setIfInBounds_toArray, List.set_cons_zero, List.set_cons_succ])
            have HCB := Lib.hid (put24_any O51 _ sn (N + 1) w51 (by have := HXS.out; omega) (by have := HL51.out; omega) HPB51.out.ns HPB51.out.own)
            refine wpAnyH_ready (rs := [6]) (by kernel_rfl) (by simp) ?_
            refine AllReadyH.cons (by simp only [List.getElem?_toArray, List.getElem?_cons_succ, List.getElem?_cons_zero]; exact rfl) (fun K hK => ?_) AllReadyH.nil
            rw [if_pos (by kernel_rfl)]
            go_simp
            refine HCB.out.mono ?_
            rintro e w52 ⟨_, v52, rfl, ho52, hg52⟩
            have HPB52 := Lib.hid (HPB51.out.grow ho52 hg52)
            obtain ⟨va52, vc52, rfl, _⟩ := owns_shape ho52
            clear ho52 hg52
            have HL52 := Lib.hid (show (O51 ++ encU sn).length ≤ 12302 from by simp only [List.length_append]; have := HL51.out; have := HXS.out; have := encU_len sn (by omega); omega)
            generalize hO52 : O51 ++ encU sn = O52 at *
            have HO52 := Lib.hid hO52; clear hO52
            try go_wp2_with fail
            refine hK.out _ _ (HK2.out _ HPB52.out.box) (fun hHeld => ?_)
            clear hK K HCB
            (try simp only [Act.put, List.setIfInBounds_toArray, List.set_cons_zero, List.set_cons_succ])
            refine wpAnyH_take (i := 7) (v := ?_) (by simp only [List.getElem?_toArray, List.getElem?_cons_succ, List.getElem?_cons_zero]; exact rfl) (by kernel_rfl) (by kernel_rfl) (by kernel_rfl) (by exact fun _ _ _ h => h) (Or.inl ⟨by kernel_rfl, ?_⟩) hHeld ?_
            rotate_left
            · intro w hSw
              (try dsimp only at hSw)
              first | (go_simp; done) | (go_simp; with_reducible rfl)
            (try simp only [Act.put, List.setIfInBounds_toArray, List.set_cons_zero, List.set_cons_succ])
            refine wpAnyH_done (by kernel_rfl) ?_ _
            go_wp2_with fail
            go_ret
            have hfin : O52 = R := by
              rw [HR.out, ← HO52.out, ← HO51.out, HQE.out, ← HO20.out, HOE.out, ← HO9.out, ← HO8.out, ← HO7.out, ← HO6.out, ← HO5.out, ← HO2.out, ← HO1.out]
              simp [encCt, encCs, List.append_assoc, qB_len, HQN.out, HES.out, HEN.out]
            subst hfin
            exact ⟨⟨_, rfl, owns_base HPB52.out.own (by omega)⟩, HPB52.out.low⟩
end Go.Proofs.YtemeppfikpafbaaGreatDoor

