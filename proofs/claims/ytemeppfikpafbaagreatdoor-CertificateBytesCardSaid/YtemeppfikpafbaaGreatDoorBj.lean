/- Texts BcrG, laid together. -/
import Derived.Laws.OwnMore
import Derived.Laws.IdiomStrings
import Derived.Test.YtemeppfikpafbaaGreatDoorBh
/- (certificate.Certificate).Bytes (56) of a certificate that Check accepts and that holds no message. -/
namespace Go.Proofs.YtemeppfikpafbaaGreatDoor
open Go.RowKit
set_option maxRecDepth 100000 in
set_option maxHeartbeats 2000000 in
theorem putBytes101_any (l m : List Int) (v x : Value) (w : World) (hl : l.length < 2000000) (hm : m.length < 2000000) (h : ByG w l v) (hx : ByG w m x) :
    Calls Tryz.prog 19 #[v, x] w fun e w' => (∃ v', e = .returned v' ∧ w'.ownsRow w.heap.size 5 1 v' (l ++ encU m.length ++ m).length (bV (l ++ encU m.length ++ m))) ∧ Below w.heap.size w w' := by
  obtain ⟨i0, hi0, hz0, hz1, hz2⟩ := info_parts infoB
  obtain ⟨a, cap, rfl, _⟩ := h.row.shape
  obtain ⟨xa, xc, rfl, _⟩ := hx.row.shape
  obtain ⟨N, hN⟩ : ∃ N, N = l.length + 10 + m.length := ⟨_, rfl⟩
  have HN := Lib.hid hN
  have hmk := run_make92 N (by omega) w
  rw [show ((N : Nat) : Int) = (l.length : Int) + 10 + m.length by omega] at hmk
  have HOWN := Lib.hid (World.ownsRow_made (base := w.heap.size) (e := 5) (size := 1) w (madeCells #[.int .u8 0] N) N (Nat.le_refl _) (by unfold maxLen; omega) (by simp [madeCells]))
  have HM0 := Lib.hid (more_alloc w (.cells (madeCells #[.int .u8 0] N) 5))
  have HR := Lib.hid (h.row.below HM0.out.below)
  have HNI := Lib.hid h.nil
  have HX := Lib.hid (hx.more HM0.out)
  have HX0 := Lib.hid hx
  clear h hN hx
  generalize hR : l ++ encU m.length ++ m = R
  have HRR := Lib.hid hR; clear hR
  have HE := Lib.hid (encU_len m.length (by omega))
  obtain ⟨ln, HLN⟩ : ∃ ln, Hid (l.length = ln) := ⟨_, Lib.hid rfl⟩
  obtain ⟨mn, HMN⟩ : ∃ mn, Hid (m.length = mn) := ⟨_, Lib.hid rfl⟩
  have hx := HX.out.row
  have hxn := HX.out.nil
  rw [HMN.out] at hm hmk hx hxn HE ⊢
  have HXR := Lib.hid hx; clear hx
  have HXN := Lib.hid hxn; clear hxn
  rw [HLN.out] at HR hl hmk HNI ⊢
  have hm1 : 0 + ln ≤ maxLen := by unfold maxLen; omega
  have hm2 : (0 + ln) * 1 ≤ 140737488355328 := by omega
  have HW := Lib.hid (And.intro hm1 hm2)
  clear hm1 hm2
  have hw10 : IntKind.i64.wrap ((ln : Int) + 10) = (ln : Int) + 10 := by rw [IntKind.wrap_i64]; omega
  have hw11 : IntKind.i64.wrap ((ln : Int) + 10 + mn) = (ln : Int) + 10 + mn := by rw [IntKind.wrap_i64]; omega
  have hwu : IntKind.u64.wrap (mn : Int) = mn := by rw [IntKind.wrap_u64]; omega
  go_enter Tryz.func19, Tryz.ntmps19
  go_upto_region 2 with (fail)
  have HS0 := Lib.hid (show w.heap.size ≤ (w.alloc (.cells (madeCells #[.int .u8 0] N) 5)).heap.size from HM0.out.size)
  generalize w.alloc (.cells (madeCells #[.int .u8 0] N) 5) = w1 at *
  go_wp2_with (at_builtin; refine wpList_append_rowC rfl _ _ 26 rfl w.heap.size 5 i0 _ 1 1 Tryz.underlying26 hi0 hz0 hz1 hz2 rfl (by omega) (.slice (some ⟨w.heap.size, 0, none⟩) 0 N) 0 [] (by first | rfl | (rw [HN.out, HLN.out, HMN.out]; rfl)) HOWN.out (.slice a ln cap) ln (bV l) rfl HR.out HNI.out (bV_one l) HW.out.1 HW.out.2 HS0.out ?_; intro v2 w2 hown hgrow; rw [Nat.zero_add, List.nil_append] at hown; obtain ⟨ga, gc, rfl, _⟩ := owns_shape hown)
  have HB2 := Lib.hid (show Below w.heap.size w w2 from HM0.out.below.grown hgrow HS0.out (fun z hz => (HOWN.out.lt z hz).1))
  have HO2 := Lib.hid (show w2.ownsRow w.heap.size 5 1 (.slice ga l.length gc) l.length (bV l) by rw [HLN.out]; exact hown)
  clear hown hgrow hmk
  have HP := Lib.hid (nput153_any l _ mn w.heap.size w2 (by omega) (by rw [HLN.out]; omega) HB2.out.size HO2.out)
  rw [HLN.out] at HP
  refine HP.out.mono ?_
  rintro e w3 ⟨hb, v', rfl, ho⟩
  have HB := Lib.hid (HB2.out.trans hb)
  obtain ⟨pn, HPN⟩ : ∃ pn, Hid ((l ++ encU mn).length = pn) := ⟨_, Lib.hid rfl⟩
  have hpn : pn ≤ 2000010 := by rw [← HPN.out, List.length_append, HLN.out]; have := HE.out; omega
  rw [HPN.out] at ho
  have HO := Lib.hid ho
  clear hb ho
  obtain ⟨va, vc, rfl, _⟩ := owns_shape HO.out
  have hm1 : pn + mn ≤ maxLen := by unfold maxLen; omega
  have hm2 : (pn + mn) * 1 ≤ 140737488355328 := by omega
  have HW2 := Lib.hid (And.intro hm1 hm2)
  clear hm1 hm2
  have HXR3 := Lib.hid (show Row anyB w3 1 mn (.slice xa mn xc) (bV m) from by
    have h1 := HX0.out.row.below HB.out
    rw [HMN.out] at h1
    exact h1)
  go_wp2_with (at_builtin; refine wpList_append_rowC rfl _ _ 26 rfl w.heap.size 5 i0 _ 1 1 Tryz.underlying26 hi0 hz0 hz1 hz2 rfl (by omega) (.slice va pn vc) pn (bV (l ++ encU mn)) rfl HO.out (.slice xa mn xc) mn (bV m) rfl HXR3.out HXN.out (bV_one m) HW2.out.1 HW2.out.2 HB.out.size ?_; intro v5 w5 hown hgrow; obtain ⟨ga2, gc2, rfl, _⟩ := owns_shape hown)
  have HBF := Lib.hid (HB.out.grown hgrow HB.out.size (fun z hz => (HO.out.lt z hz).1))
  have HOF := Lib.hid (show w5.ownsRow w.heap.size 5 1 (.slice ga2 R.length gc2) R.length (bV R) by
    rw [← HRR.out, HMN.out, bV_append, List.length_append, HPN.out, HMN.out]; exact hown)
  have hrl : pn + mn = R.length := by rw [← HRR.out, HMN.out, List.length_append, HPN.out, HMN.out]
  rw [hrl]
  clear hown hgrow
  go_wp2_with fail
  go_ret
  exact ⟨⟨_, rfl, HOF.out⟩, HBF.out⟩
def encK (k : K4) : List Int := k.kind :: (encU k.a.toNat ++ encU k.b.toNat ++ encU k.n.toNat)
def encAr (a : AV) : List Int := encU a.2.tk.toNat ++ encU a.2.hd.toNat ++ encU a.2.l.length ++ a.2.l.flatMap fun v => encU (zz v)
def encHo (h : HV) : List Int := encU h.2.m.f.toNat ++ encU h.2.m.t.toNat ++ encU h.2.m.n.toNat ++ encU h.2.al.length ++ h.2.al.flatMap encAr
def qB (q : ByteArray) : List Int := q.data.toList.map fun b => (b.toNat : Int)
/-- What stands ahead of the keys. -/
def encCs (fl : List Int) (c : Cert) : List Int := [1] ++ fl ++ encU (qB c.q).length ++ qB c.q ++ encU c.hor.toNat ++ encU (encS (c.S.map (·.2))).length ++ encS (c.S.map (·.2)) ++ encU c.U.length
/-- The bytes of a certificate. -/
def encCt (fl : List Int) (c : Cert) : List Int := encCs fl c ++ c.U.flatMap encK ++ encU c.H.length ++ c.H.flatMap encHo ++ encU c.wit.toNat ++ encU c.spl.toNat
theorem qB_len (q : ByteArray) : (qB q).length = q.size := by unfold qB; rw [List.length_map, Array.length_toList]; rfl
/-- What Check's word says. -/
theorem chk0 {c : Cert} (h : Chk c 0) : ¬ 2000 < c.q.size ∧ ¬ R2 c ∧ ¬ R1 c ∧ (UA c ∧ HoldsOk c.hor c.H) ∧ HS c := by
  unfold Chk at h
  rcases h with ⟨_, h⟩ | ⟨h1, ⟨_, h⟩ | ⟨h2, ⟨_, h⟩ | ⟨h3, ⟨_, h⟩ | ⟨h4, ⟨_, h⟩ | ⟨h5, _⟩⟩⟩⟩⟩
  · omega
  · omega
  · omega
  · omega
  · omega
  · exact ⟨h1, h2, h3, h4, h5⟩
theorem encS_len {l : List GV} (hl : l.length ≤ 96) (hok : ∀ p ∈ l, CgOk p.2) (hi : ∀ p ∈ l, ∀ n ∈ p.2.l, In64 n) : (encS (l.map (·.2))).length ≤ 9706 := by
  unfold encS
  rw [List.length_append]
  have h1 := encU_len (l.map (·.2)).length (by rw [List.length_map]; omega)
  have h2 := flat_len_le (f := encC) (m := 101) (l := l.map (·.2)) (fun x hx => by
    obtain ⟨p, hp, rfl⟩ := List.mem_map.1 hx
    exact encC_len (hok p hp) (hi p hp))
  rw [List.length_map] at h2
  omega
theorem key_of_hs {l : List GV} (hok : ∀ p ∈ l, CgOk p.2) {k : K4} (h : hasG l k = true) : KeyOk k := by
  unfold hasG at h
  rw [List.any_eq_true] at h
  obtain ⟨x, hx, e⟩ := h
  have e := of_decide_eq_true e
  rw [← e]; exact (hok x hx).key
theorem key_small {k : K4} (h : KeyOk k) : k.b ≤ 7 := by
  have hb := h.b1
  unfold topB at hb
  split at hb <;> (try split at hb) <;> omega
/-- Bytes that are being laid, beside the certificate's box in block N. -/
structure PB (N : Nat) (w : World) (arr : Array Value) (W : World) (O : List Int) (v : Value) : Prop where
  own : W.ownsRow (N + 1) 5 1 v O.length (bV O)
  low : Below N w W
  box : W.heap[N]? = some (.cells arr 35)
theorem PB.ns {N : Nat} {w : World} {arr : Array Value} {W : World} {O : List Int} {v : Value} (h : PB N w arr W O v) : N + 1 ≤ W.heap.size := blk_lt h.box
theorem PB.put {N : Nat} {w : World} {arr : Array Value} {W W' : World} {O Q : List Int} {v v' : Value} (h : PB N w arr W O v) (ho : W'.ownsRow W.heap.size 5 1 v' Q.length (bV Q)) (hb : Below W.heap.size W W') : PB N w arr W' Q v' :=
  ⟨owns_base ho h.ns, h.low.trans (hb.mono (by have := h.ns; omega)), ((more_of hb).block (blk_lt h.box)).trans h.box⟩
theorem PB.more {N : Nat} {w : World} {arr : Array Value} {W W' : World} {O : List Int} {v : Value} (h : PB N w arr W O v) (hm : More W W') : PB N w arr W' O v :=
  ⟨owns_keep h.own (fun z hz => hm.block (h.own.lt z hz).2), h.low.trans (hm.below.mono (by have := h.ns; omega)), (hm.block (blk_lt h.box)).trans h.box⟩
theorem PB.grow {N : Nat} {w : World} {arr : Array Value} {W W' : World} {O Q : List Int} {v v' : Value} (h : PB N w arr W O v) (ho : W'.ownsRow (N + 1) 5 1 v' Q.length (bV Q)) (hg : W.grownBy W' v.ownBlock) : PB N w arr W' Q v' :=
  ⟨ho, h.low.grown hg (by have := h.ns; omega) (fun z hz => by have := (h.own.lt z hz).1; omega), (hg.block N (blk_lt h.box) (fun e => by have := (h.own.lt N e.symm).1; omega)).trans h.box⟩
theorem PB.byg {N : Nat} {w : World} {arr : Array Value} {W : World} {O : List Int} {v : Value} (h : PB N w arr W O v) : ByG W O v := ByG.of_owns h.own
set_option maxRecDepth 100000 in
set_option maxHeartbeats 4000000 in
theorem bytes56_nohold (arr : Array Value) (c : Cert) (fl : List Int) (w : World) (hc : CertAt w arr c) (hfl : fl.length = 32) (hfa : ∀ (j : Nat) (n : Int), fl[j]? = some n → arr[j]? = some (.int .u8 n)) (hi : ∀ p ∈ c.S, ∀ n ∈ p.2.l, In64 n) (hk : Chk c 0) (hH : c.H = []) :
    Calls Tryz.prog 6 #[.agg arr] w fun e w' => (∃ v, e = .returned v ∧ w'.ownsRow w.heap.size 5 1 v (encCt fl c).length (bV (encCt fl c))) ∧ Below w.heap.size w w' := by
  obtain ⟨q, hor, sv, Sl, uv, U, hv, H, wit, spl⟩ := c
  dsimp only at hH hi
  subst hH
  have HC := Lib.hid hc
  have HK := Lib.hid hk
  obtain ⟨k1, k2, k3, _, k5⟩ := chk0 hk
  unfold R2 at k2; unfold R1 at k3; unfold HS at k5
  dsimp only at k1 k2 k3 k5
  obtain ⟨hsz, h32, h33, h34, h35, h36, h37, h38, hset, hund, hhol, _, hul, hhl⟩ := hc
  dsimp only at *
  obtain ⟨hn, hhn⟩ : ∃ n : Nat, hor = n := ⟨hor.toNat, by omega⟩
  obtain ⟨wn, hwn⟩ : ∃ n : Nat, wit = n := ⟨wit.toNat, by omega⟩
  obtain ⟨sn, hsn⟩ : ∃ n : Nat, spl = n := ⟨spl.toNat, by omega⟩
  subst hhn hwn hsn
  obtain ⟨ua, uc, rfl, _⟩ := hund.shape
  obtain ⟨ha, hcp, rfl, _⟩ := hhol.shape
  obtain ⟨sa, sc, rfl, _⟩ := hset.row.shape
  have HUND := Lib.hid hund; clear hund hhol hset hhl hk
  have HI := Lib.hid hi; clear hi
  have HKO := Lib.hid (show ∀ k ∈ U, KeyOk k from fun k hm => key_of_hs HC.out.set.ok (k5 k hm)); clear k5
  have HSL := Lib.hid (encS_len HC.out.set.len HC.out.set.ok HI.out)
  have HSM := Lib.hid (show hn ≤ 200 ∧ wn ≤ 2 ∧ sn ≤ 200 ∧ q.size ≤ 2000 ∧ U.length ≤ 3 by omega); clear k1 k2 k3 hul
  have HSZ := Lib.hid hsz; clear hsz
  have H32 := Lib.hid h32; clear h32
  have H33 := Lib.hid h33; clear h33
  have H34 := Lib.hid h34; clear h34
  have H35 := Lib.hid h35; clear h35
  have H36 := Lib.hid h36; clear h36
  have H37 := Lib.hid h37; clear h37
  have H38 := Lib.hid h38; clear h38
  have h32 := H32; clear H32
  have h33 := H33; clear H33
  have h34 := H34; clear H34
  have h35 := H35; clear H35
  have h36 := H36; clear H36
  have h37 := H37; clear H37
  have h38 := H38; clear H38
  obtain ⟨R, HR⟩ : ∃ R, Hid (R = encCt fl ⟨q, hn, .slice sa Sl.length sc, Sl, .slice ua U.length uc, U, .slice ha ([] : List HV).length hcp, [], wn, sn⟩) := ⟨_, Lib.hid rfl⟩
  rw [← HR.out]
  obtain ⟨i0, hi0, hz0, hz1, hz2⟩ := info_parts infoB
  obtain ⟨N, HN⟩ : ∃ N, Hid (N = w.heap.size) := ⟨_, Lib.hid rfl⟩
  have HB1 := Lib.hid (alloc_last w (.cells arr 35))
  have HM1 := Lib.hid (more_alloc w (.cells arr 35))
  rw [← HN.out] at HB1 ⊢
  go_enter Tryz.func6, Tryz.ntmps6
  go_upto_region 1 with (fail)
  rw [← HN.out]
  generalize w.alloc (.cells arr 35) = w1 at *
  have HC50 := Lib.hid (check50_any arr _ w1 (HC.out.more HM1.out))
  go_wp2_with (refine wpList_load98 rfl _ rfl N rfl arr HB1.out HSZ.out ?_)
  refine HC50.out.mono ?_
  rintro e w2 ⟨⟨E, rfl, hE⟩, hb2⟩
  obtain rfl : E = 0 := hE.same HK.out
  clear hE HC50
  have HM2 := Lib.hid (more_trans HM1.out (more_of hb2))
  have HB2 := Lib.hid (((more_of hb2).block (blk_lt HB1.out)).trans HB1.out)
  clear hb2
  have HO2 := Lib.hid (World.ownsRow_lit (base := N + 1) (e := 5) (size := 1) w2 #[.int .u8 1] 1 (blk_lt HB2.out) (by unfold maxLen; omega) rfl)
  have HM3 := Lib.hid (more_alloc w2 (.cells #[.int .u8 1] 5))
  have HPB0 := Lib.hid (show PB N w arr (w2.alloc (.cells #[.int .u8 1] 5)) [1] (.slice (some ⟨w2.heap.size, 0, none⟩) 1 1) from ⟨HO2.out, by rw [HN.out]; exact (more_trans HM2.out HM3.out).below, (HM3.out.block (blk_lt HB2.out)).trans HB2.out⟩)
  have HFL := Lib.hid (show Row anyB (w2.alloc (.cells #[.int .u8 1] 5)) 1 32 (.slice (some ⟨N, 0, none⟩) 32 32) (bV fl) from ⟨by rw [bV_length, hfl], _, _, rfl, Nat.le_refl _, fun _ => ⟨N, 0, rfl, trivial, fun j u hj => by
    have hj2 : (fl.map (Value.int .u8))[j]? = some u := hj
    rw [List.getElem?_map, Option.map_eq_some_iff] at hj2
    obtain ⟨n, h1, rfl⟩ := hj2
    rw [Nat.zero_add]
    exact cell_of_blk HPB0.out.box (hfa j n h1)⟩⟩)
  go_upto_region 4 with (at_builtin; refine wpList_append_rowC rfl _ _ 26 rfl (N + 1) 5 i0 _ 1 1 Tryz.underlying26 hi0 hz0 hz1 hz2 rfl (by omega) (.slice (some ⟨w2.heap.size, 0, none⟩) 1 1) 1 (bV [1]) rfl HPB0.out.own (.slice (some ⟨N, 0, none⟩) 32 32) 32 (bV fl) rfl HFL.out (fun n c e => by cases e) (bV_one fl) (by unfold maxLen; omega) (by omega) HPB0.out.ns ?_; intro v3 w3 hown3 hgrow3; obtain ⟨ga, gc, rfl, _⟩ := owns_shape hown3)
  have HPB := Lib.hid (HPB0.out.grow (Q := [1] ++ fl) (v' := .slice ga 33 gc) (by rw [List.length_append, hfl, bV_append]; exact hown3) hgrow3)
  clear hown3 hgrow3 HPB0 HFL HO2
  have hl0 : ([1] ++ fl : List Int).length = 33 := by rw [List.length_append, hfl]; rfl
  generalize hO : ([1] ++ fl : List Int) = O1 at *
  have HO1 := Lib.hid hO; clear hO
  have HL1 := Lib.hid hl0; clear hl0
  obtain ⟨w3, rfl⟩ : ∃ wz : World, wz = w3 := ⟨_, rfl⟩
  have n32 : w3.cell? ⟨N, 32, none⟩ = some (.string q) := cell_of_blk HPB.out.box h32.out
  have hbn := cell_lt n32
  have hcv := run_bytes_of_string (P := Tryz.prog) w3 9 26 5 q Tryz.underlying9 Tryz.underlying26 Tryz.underlying5
  obtain ⟨qc, HQC⟩ : ∃ qc, Hid (grownCap w3 q.size 0 5 = qc) := ⟨_, Lib.hid rfl⟩
  rw [HQC.out] at hcv
  have HQM := Lib.hid (show More w3 (w3.drew.alloc (.cells (bytesRow q qc) 5 ((bytesRow q qc).size, (bytesRow q qc).size + 1))) from more_trans (more_drew _) (more_alloc _ _))
  have HQA := Lib.hid (alloc_last w3.drew (.cells (bytesRow q qc) 5 ((bytesRow q qc).size, (bytesRow q qc).size + 1)))
  have hdz : w3.drew.heap.size = w3.heap.size := rfl
  rw [hdz] at HQA
  clear hdz
  generalize w3.drew.alloc (.cells (bytesRow q qc) 5 ((bytesRow q qc).size, (bytesRow q qc).size + 1)) = w4 at *
  obtain ⟨QB, HQE⟩ : ∃ QB, Hid (QB = w3.heap.size) := ⟨_, Lib.hid rfl⟩
  rw [← HQE.out] at HQA hcv
  have HQR := Lib.hid (show ByG w4 (qB q) (.slice (some ⟨QB, 0, none⟩) q.size qc) from ⟨by
      refine ⟨by rw [bV_length, Nat.mul_one], _, _, by rw [qB_len], by rw [qB_len, ← HQC.out]; exact grownCap_ge _ _ _ _, fun _ => ⟨QB, 0, rfl, trivial, fun j u hj => ?_⟩⟩
      have hj2 : ((qB q).map (Value.int .u8))[j]? = some u := hj
      unfold qB at hj2
      rw [List.map_map, List.getElem?_map, Option.map_eq_some_iff] at hj2
      obtain ⟨x, h1, rfl⟩ := hj2
      rw [Nat.zero_add, cell_of_row w4 QB j _ 5 _ HQA.out]
      unfold bytesRow
      rw [Array.getElem?_append_left (by rw [Array.size_map]; rw [Array.getElem?_toList] at h1; exact (Array.getElem?_eq_some_iff.1 h1).1), Array.getElem?_map, ← Array.getElem?_toList, h1]
      rfl, fun n c e => by cases e⟩)
  have HP4 := Lib.hid (HPB.out.more HQM.out)
  have HCB := Lib.hid (putBytes101_any O1 (qB q) _ _ w4 (by rw [HL1.out]; omega) (by rw [qB_len]; have := HSM.out.2.2.2.1; omega) HP4.out.byg HQR.out)
  go_wp2_with fail
  refine HCB.out.mono ?_
  rintro e w5 ⟨⟨v2, rfl, ho2⟩, hb2⟩
  have HPB2 := Lib.hid (HP4.out.put ho2 hb2)
  obtain ⟨va2, vc2, rfl, _⟩ := owns_shape ho2
  clear ho2 hb2
  have HL2 := Lib.hid (show (O1 ++ encU (qB q).length ++ qB q).length ≤ 2043 from by simp only [List.length_append]; rw [qB_len]; have := HL1.out; have := HSM.out.2.2.2.1; have := encU_len q.size (by omega); omega)
  generalize hO2 : O1 ++ encU (qB q).length ++ qB q = O2 at *
  have HO2 := Lib.hid hO2; clear hO2
  clear n32 hbn hcv HCB HQR HQA HPB HP4
  have n33 : w5.cell? ⟨N, 33, none⟩ = some (.int .i64 hn) := cell_of_blk HPB2.out.box h33.out
  have hbn := cell_lt n33
  have HCB := Lib.hid (putInt102_any O2 _ hn w5 (by have := HSM.out.1; omega) (by have := HL2.out; omega) HPB2.out.byg)
  go_wp2_with fail
  refine HCB.out.mono ?_
  rintro e w6 ⟨⟨v3, rfl, ho3⟩, hb3⟩
  have HPB3 := Lib.hid (HPB2.out.put ho3 hb3)
  obtain ⟨va3, vc3, rfl, _⟩ := owns_shape ho3
  clear ho3 hb3
  have HL3 := Lib.hid (show (O2 ++ encU hn).length ≤ 2053 from by simp only [List.length_append]; have := HL2.out; have := HSM.out.1; have := encU_len hn (by omega); omega)
  generalize hO3 : O2 ++ encU hn = O3 at *
  have HO3 := Lib.hid hO3; clear hO3
  clear n33 hbn HCB
  have n34 : w6.cell? ⟨N, 34, none⟩ = some (.slice sa Sl.length sc) := cell_of_blk HPB3.out.box h34.out
  have hbn := cell_lt n34
  have HC97 := Lib.hid (bytes97_any Sl _ w6 (HC.out.set.more (more_of (by rw [← HN.out]; exact HPB3.out.low))) HI.out)
  go_wp2_with fail
  refine HC97.out.mono ?_
  rintro e w7 ⟨⟨vb, rfl, hob⟩, hbb⟩
  have HPB3b := Lib.hid (HPB3.out.more (more_of hbb))
  have HBS := Lib.hid (ByG.of_owns hob)
  obtain ⟨sba, sbc, rfl, _⟩ := owns_shape hob
  clear hob hbb n34 hbn HC97
  have HCB := Lib.hid (putBytes101_any O3 (encS (Sl.map (·.2))) _ _ w7 (by have := HL3.out; omega) (by have := HSL.out; omega) HPB3b.out.byg HBS.out)
  go_wp2_with fail
  refine HCB.out.mono ?_
  rintro e w8 ⟨⟨v4, rfl, ho4⟩, hb4⟩
  have HPB4 := Lib.hid (HPB3b.out.put ho4 hb4)
  obtain ⟨va4, vc4, rfl, _⟩ := owns_shape ho4
  clear ho4 hb4
  have HL4 := Lib.hid (show (O3 ++ encU (encS (Sl.map (·.2))).length ++ encS (Sl.map (·.2))).length ≤ 11769 from by simp only [List.length_append]; have := HL3.out; have := HSL.out; have := encU_len (encS (Sl.map (·.2))).length (by omega); omega)
  generalize hO4 : O3 ++ encU (encS (Sl.map (·.2))).length ++ encS (Sl.map (·.2)) = O4 at *
  have HO4 := Lib.hid hO4; clear hO4
  clear HCB HBS
  have n35 : w8.cell? ⟨N, 35, none⟩ = some (.slice ua U.length uc) := cell_of_blk HPB4.out.box h35.out
  have hbn := cell_lt n35
  have HCB := Lib.hid (putInt102_any O4 _ U.length w8 (by have := HSM.out.2.2.2.2; omega) (by have := HL4.out; omega) HPB4.out.byg)
  go_wp2_with fail
  refine HCB.out.mono ?_
  rintro e w9 ⟨⟨v5, rfl, ho5⟩, hb5⟩
  have HPB5 := Lib.hid (HPB4.out.put ho5 hb5)
  obtain ⟨va5, vc5, rfl, _⟩ := owns_shape ho5
  clear ho5 hb5
  have HL5 := Lib.hid (show (O4 ++ encU U.length).length ≤ 11779 from by simp only [List.length_append]; have := HL4.out; have := HSM.out.2.2.2.2; have := encU_len U.length (by omega); omega)
  generalize hO5 : O4 ++ encU U.length = O5 at *
  have HO5 := Lib.hid hO5; clear hO5
  clear n35 hbn HCB
  have n35 : w9.cell? ⟨N, 35, none⟩ = some (.slice ua U.length uc) := cell_of_blk HPB5.out.box h35.out
  have hbn := cell_lt n35
  have hu3 := HSM.out.2.2.2.2
  go_wp2_with fail
  clear n35 hbn
  go_loopw [3, 41] (fun p i wr => ∃ (j : Nat) (O : List Int), j ≤ U.length ∧ i = .int .i64 j ∧ Hid (PB N w arr wr O p) ∧ Hid (O = O5 ++ (U.take j).flatMap encK) ∧ Hid (O.length ≤ 11779 + j * 31)) (fun _ i _ => U.length - (intOf i).toNat)
  case atStart => exact ⟨0, O5, Nat.zero_le _, rfl, HPB5, Lib.hid (by simp), Lib.hid (by have := HL5.out; omega)⟩
  case round =>
    obtain ⟨j, O, hj, rfl, HPO, HOE, HOL⟩ := hrel
    obtain ⟨wo, rfl⟩ : ∃ wo : World, wo = wr := ⟨_, rfl⟩
    obtain ⟨oa, oc, rfl, _⟩ := owns_shape HPO.out.own
    have HMW := Lib.hid (show More w wo from more_of (by rw [← HN.out]; exact HPO.out.low))
    have hu3 := HSM.out.2.2.2.2
    by_cases hlt : j < U.length
    · obtain ⟨b, off, rfl, _, hc⟩ := HUND.out.atC kC_len hlt
      have e0 := HMW.out.cell (hc 0 (.int .u8 U[j].kind) rfl)
      have e1 := HMW.out.cell (hc 1 (.int .i64 U[j].a) rfl)
      have e2 := HMW.out.cell (hc 2 (.int .i64 U[j].b) rfl)
      have e3 := HMW.out.cell (hc 3 (.int .i64 U[j].n) rfl)
      rw [Nat.add_zero] at e0
      clear hc
      have HKX := Lib.hid (HKO.out _ (List.getElem_mem hlt))
      have HT := Lib.hid (show U.take (j + 1) = U.take j ++ [U[j]] from List.take_succ_eq_append_getElem hlt)
      have HLT := Lib.hid hlt
      generalize U[j] = x at *
      obtain ⟨kd, xa, xb, xn⟩ := x
      obtain ⟨na, hna⟩ : ∃ n : Nat, xa = n := ⟨xa.toNat, by have := HKX.out.a0; dsimp only at this; omega⟩
      obtain ⟨nb, hnb⟩ : ∃ n : Nat, xb = n := ⟨xb.toNat, by have := HKX.out.b0; dsimp only at this; omega⟩
      obtain ⟨nn, hnn⟩ : ∃ n : Nat, xn = n := ⟨xn.toNat, by have := HKX.out.n0; dsimp only at this; omega⟩
      subst hna hnb hnn
      dsimp only at e0 e1 e2 e3
      have HXS := Lib.hid (show na ≤ 7 ∧ nb ≤ 7 ∧ nn ≤ 65535 by have h1 := HKX.out.a1; have h2 := key_small HKX.out; have h3 := HKX.out.n1; dsimp only at h1 h2 h3; omega)
      have hbe := cell_lt e0
      have HXB := Lib.hid (alloc_last wo (.cells #[.int .u8 kd, .int .i64 na, .int .i64 nb, .int .i64 nn] 53))
      have HMO := Lib.hid (more_alloc wo (.cells #[.int .u8 kd, .int .i64 na, .int .i64 nb, .int .i64 nn] 53))
      go_upto_region 11 with (fail)
      clear e0 e1 e2 e3 hbe
      generalize wo.alloc (.cells #[.int .u8 kd, .int .i64 na, .int .i64 nb, .int .i64 nn] 53) = w10 at *
      obtain ⟨XB, HXE⟩ : ∃ XB, Hid (XB = wo.heap.size) := ⟨_, Lib.hid rfl⟩
      rw [← HXE.out] at HXB ⊢
      have HP10 := Lib.hid (HPO.out.more HMO.out)
      have x0 : w10.cell? ⟨XB, 0, none⟩ = some (.int .u8 kd) := cell_of_blk HXB.out rfl
      have hbx := cell_lt x0
      have HR1 := Lib.hid (show O.length + 1 ≤ maxLen ∧ (O.length + 1) * 1 ≤ 140737488355328 from by have h1 := HOL.out; have h2 := HLT.out; unfold maxLen; omega)
      go_upto_region 12 with (at_builtin; refine wpList_append_own _ rfl _ _ 26 rfl (N + 1) 5 i0 _ 1 1 Tryz.underlying26 hi0 hz0 hz1 hz2 rfl (by omega) (.slice oa O.length oc) O.length (bV O) rfl (owns_keep HP10.out.own (fun z hz => Below.heap_alloc w10 _ _ (HP10.out.own.lt z hz).2)) ⟨w10.heap.size, 0, none⟩ 1 1 [.int .u8 kd] rfl rfl (World.news_of_block (cs := #[.int .u8 kd]) (t := 5) (fr := (0, 0)) (alloc_last _ _)) (by simp [Value.oneCell']) HR1.out.1 HR1.out.2 (by rw [World.size_alloc]; exact Nat.le_succ_of_le HP10.out.ns) ?_; intro v11 w11 hown hgrow _)
      have HP11 := Lib.hid ((HP10.out.more (more_alloc w10 (.cells #[.int .u8 kd] 5))).grow (Q := O ++ [kd]) (v' := v11) (by rw [bV_push, List.length_append]; exact hown) hgrow)
      have HX11 := Lib.hid ((hgrow.block XB (by rw [World.size_alloc]; exact Nat.lt_succ_of_lt (blk_lt HXB.out)) (fun e => by have h1 := (HPO.out.own.lt XB e.symm).2; have h2 := HXE.out; omega)).trans ((Below.heap_alloc w10 _ _ (blk_lt HXB.out)).trans HXB.out))
      have HL6 := Lib.hid (show (O ++ [kd]).length ≤ 11780 + j * 31 by rw [List.length_append]; have := HOL.out; simp only [List.length_singleton]; omega)
      obtain ⟨ga, gc, rfl, _⟩ := owns_shape HP11.out.own
      clear hown hgrow x0 hbx
      generalize hO6 : O ++ [kd] = O6 at *
      have HO6 := Lib.hid hO6; clear hO6
      have x1 : w11.cell? ⟨XB, 1, none⟩ = some (.int .i64 na) := cell_of_blk HX11.out rfl
      have x2 : w11.cell? ⟨XB, 2, none⟩ = some (.int .i64 nb) := cell_of_blk HX11.out rfl
      have x3 : w11.cell? ⟨XB, 3, none⟩ = some (.int .i64 nn) := cell_of_blk HX11.out rfl
      have hbx := cell_lt x1
      have HK2 := Lib.hid (show ∀ W, More w11 W → (W.cell? ⟨XB, 1, none⟩ = some (.int .i64 na) ∧ W.cell? ⟨XB, 2, none⟩ = some (.int .i64 nb) ∧ W.cell? ⟨XB, 3, none⟩ = some (.int .i64 nn)) from fun W h => ⟨h.cell x1, h.cell x2, h.cell x3⟩)
      have HLL := Lib.hid (more_drew w11)
      have HP12 := Lib.hid (HP11.out.more HLL.out)
      refine wp_region_held_drew (S := fun W => W.cell? ⟨XB, 1, none⟩ = some (.int .i64 na) ∧ W.cell? ⟨XB, 2, none⟩ = some (.int .i64 nb) ∧ W.cell? ⟨XB, 3, none⟩ = some (.int .i64 nn)) (by kernel_rfl) (HK2.out _ HLL.out) (fun hHeld => ?_)
      refine wpAnyH_take (i := 0) (v := ?_) (by simp only [List.getElem?_toArray, List.getElem?_cons_zero]; exact rfl) (by kernel_rfl) (by kernel_rfl) (by kernel_rfl) (by exact fun _ _ _ h => h) (Or.inl ⟨by kernel_rfl, ?_⟩) hHeld ?_
      rotate_left
      · intro w hSw
        (try dsimp only at hSw)
        first | (go_simp; done) | (go_simp; with_reducible rfl)
      (try simp only [Act.put, List.setIfInBounds_toArray, List.set_cons_zero, List.set_cons_succ])
      refine wpAnyH_take (i := 1) (v := ?_) (by simp only [List.getElem?_toArray, List.getElem?_cons_succ, List.getElem?_cons_zero]; exact rfl) (by kernel_rfl) (by kernel_rfl) (by kernel_rfl) (by exact fun _ _ _ h => h) (Or.inl ⟨by kernel_rfl, ?_⟩) hHeld ?_
      rotate_left
      · intro w hSw
        (try dsimp only at hSw)
        first | (go_simp; done) | (go_simp; with_reducible rfl)
      (try simp only [Act.put, List.setIfInBounds_toArray, List.set_cons_zero, List.set_cons_succ])
      refine wpAnyH_take (i := 2) (v := ?_) (by simp only [List.getElem?_toArray, List.getElem?_cons_succ, List.getElem?_cons_zero]; exact rfl) (by kernel_rfl) (by kernel_rfl) (by kernel_rfl) (by exact fun _ _ _ h => h) (Or.inl ⟨by kernel_rfl, ?_⟩) hHeld ?_
      rotate_left
      · intro w hSw
        (try dsimp only at hSw)
        first | (go_simp; done) | (go_simp; with_reducible rfl)
      (try simp only [Act.put, List.setIfInBounds_toArray, List.set_cons_zero, List.set_cons_succ])
      refine wpAnyH_take (i := 4) (v := ?_) (by simp only [List.getElem?_toArray, List.getElem?_cons_succ, List.getElem?_cons_zero]; exact rfl) (by kernel_rfl) (by kernel_rfl) (by kernel_rfl) (by exact fun _ _ _ h => h) (Or.inl ⟨by kernel_rfl, ?_⟩) hHeld ?_
      rotate_left
      · intro w hSw
        (try dsimp only at hSw)
        first | (go_simp; done) | (go_simp; with_reducible rfl)
      (try simp only [Act.put, List.setIfInBounds_toArray, List.set_cons_zero, List.set_cons_succ])
      refine wpAnyH_take (i := 5) (v := ?_) (by simp only [List.getElem?_toArray, List.getElem?_cons_succ, List.getElem?_cons_zero]; exact rfl) (by kernel_rfl) (by kernel_rfl) (by kernel_rfl) (by exact fun _ _ _ h => h) (Or.inl ⟨by kernel_rfl, ?_⟩) hHeld ?_
      rotate_left
      · intro w hSw
        (try dsimp only at hSw)
        first | (go_simp; done) | (go_simp; with_reducible rfl)
      (try simp only [Act.put, List.setIfInBounds_toArray, List.set_cons_zero, List.set_cons_succ])
      refine wpAnyH_take (i := 7) (v := ?_) (by simp only [List.getElem?_toArray, List.getElem?_cons_succ, List.getElem?_cons_zero]; exact rfl) (by kernel_rfl) (by kernel_rfl) (by kernel_rfl) (by exact fun _ _ _ h => h) (Or.inl ⟨by kernel_rfl, ?_⟩) hHeld ?_
      rotate_left
      · intro w hSw
        (try dsimp only at hSw)
        first | (go_simp; done) | (go_simp; with_reducible rfl)
      (try simp only [Act.put, List.setIfInBounds_toArray, List.set_cons_zero, List.set_cons_succ])
      refine wpAnyH_take (i := 8) (v := ?_) (by simp only [List.getElem?_toArray, List.getElem?_cons_succ, List.getElem?_cons_zero]; exact rfl) (by kernel_rfl) (by kernel_rfl) (by kernel_rfl) (by exact fun _ _ _ h => h) (Or.inl ⟨by kernel_rfl, ?_⟩) hHeld ?_
      rotate_left
      · intro w hSw
        (try dsimp only at hSw)
        first | (go_simp; done) | (go_simp; with_reducible rfl)
      (try simp only [Act.put, List.setIfInBounds_toArray, List.set_cons_zero, List.set_cons_succ])
      have HCB := Lib.hid (putInt102_any O6 _ na w11.drew (by have := HXS.out; omega) (by have := HL6.out; have := HLT.out; omega) HP12.out.byg)
      refine wpAnyH_ready (rs := [3]) (by kernel_rfl) (by simp) ?_
      refine AllReadyH.cons (by simp only [List.getElem?_toArray, List.getElem?_cons_succ, List.getElem?_cons_zero]; exact rfl) (fun K hK => ?_) AllReadyH.nil
      rw [if_pos (by kernel_rfl)]
      go_simp
      refine HCB.out.mono ?_
      rintro e w12 ⟨⟨v7, rfl, ho7⟩, hb7⟩
      have HLL := Lib.hid (more_trans HLL.out (more_of hb7))
      have HPB7 := Lib.hid (HP12.out.put ho7 hb7)
      obtain ⟨va7, vc7, rfl, _⟩ := owns_shape ho7
      clear ho7 hb7
      have HL7 := Lib.hid (show (O6 ++ encU na).length ≤ 11790 + j * 31 from by simp only [List.length_append]; have := HL6.out; have := HXS.out; have := encU_len na (by omega); omega)
      generalize hO7 : O6 ++ encU na = O7 at *
      have HO7 := Lib.hid hO7; clear hO7
      have K7 := HK2.out w12 HLL.out
      try go_wp2_with fail
      refine hK.out _ _ K7 (fun hHeld => ?_)
      clear hK K HCB
      (try simp only [Act.put, List.setIfInBounds_toArray, List.set_cons_zero, List.set_cons_succ])
      have HCB := Lib.hid (putInt102_any O7 _ nb w12 (by have := HXS.out; omega) (by have := HL7.out; have := HLT.out; omega) HPB7.out.byg)
      refine wpAnyH_ready (rs := [6]) (by kernel_rfl) (by simp) ?_
      refine AllReadyH.cons (by simp only [List.getElem?_toArray, List.getElem?_cons_succ, List.getElem?_cons_zero]; exact rfl) (fun K hK => ?_) AllReadyH.nil
      rw [if_pos (by kernel_rfl)]
      go_simp
      refine HCB.out.mono ?_
      rintro e w13 ⟨⟨v8, rfl, ho8⟩, hb8⟩
      have HLL := Lib.hid (more_trans HLL.out (more_of hb8))
      have HPB8 := Lib.hid (HPB7.out.put ho8 hb8)
      obtain ⟨va8, vc8, rfl, _⟩ := owns_shape ho8
      clear ho8 hb8
      have HL8 := Lib.hid (show (O7 ++ encU nb).length ≤ 11800 + j * 31 from by simp only [List.length_append]; have := HL7.out; have := HXS.out; have := encU_len nb (by omega); omega)
      generalize hO8 : O7 ++ encU nb = O8 at *
      have HO8 := Lib.hid hO8; clear hO8
      have K8 := HK2.out w13 HLL.out
      try go_wp2_with fail
      refine hK.out _ _ K8 (fun hHeld => ?_)
      clear hK K HCB
      (try simp only [Act.put, List.setIfInBounds_toArray, List.set_cons_zero, List.set_cons_succ])
      have HCB := Lib.hid (putInt102_any O8 _ nn w13 (by have := HXS.out; omega) (by have := HL8.out; have := HLT.out; omega) HPB8.out.byg)
      refine wpAnyH_ready (rs := [9]) (by kernel_rfl) (by simp) ?_
      refine AllReadyH.cons (by simp only [List.getElem?_toArray, List.getElem?_cons_succ, List.getElem?_cons_zero]; exact rfl) (fun K hK => ?_) AllReadyH.nil
      rw [if_pos (by kernel_rfl)]
      go_simp
      refine HCB.out.mono ?_
      rintro e w14 ⟨⟨v9, rfl, ho9⟩, hb9⟩
      have HLL := Lib.hid (more_trans HLL.out (more_of hb9))
      have HPB9 := Lib.hid (HPB8.out.put ho9 hb9)
      obtain ⟨va9, vc9, rfl, _⟩ := owns_shape ho9
      clear ho9 hb9
      have HL9 := Lib.hid (show (O8 ++ encU nn).length ≤ 11810 + j * 31 from by simp only [List.length_append]; have := HL8.out; have := HXS.out; have := encU_len nn (by omega); omega)
      generalize hO9 : O8 ++ encU nn = O9 at *
      have HO9 := Lib.hid hO9; clear hO9
      have K9 := HK2.out w14 HLL.out
      try go_wp2_with fail
      refine hK.out _ _ K9 (fun hHeld => ?_)
      clear hK K HCB
      (try simp only [Act.put, List.setIfInBounds_toArray, List.set_cons_zero, List.set_cons_succ])
      refine wpAnyH_take (i := 10) (v := ?_) (by simp only [List.getElem?_toArray, List.getElem?_cons_succ, List.getElem?_cons_zero]; exact rfl) (by kernel_rfl) (by kernel_rfl) (by kernel_rfl) (by exact fun _ _ _ h => h) (Or.inl ⟨by kernel_rfl, ?_⟩) hHeld ?_
      rotate_left
      · intro w hSw
        (try dsimp only at hSw)
        first | (go_simp; done) | (go_simp; with_reducible rfl)
      (try simp only [Act.put, List.setIfInBounds_toArray, List.set_cons_zero, List.set_cons_succ])
      refine wpAnyH_done (by kernel_rfl) ?_ _
      have hlt9 := HLT.out
      clear x1 x2 x3 hbx
      go_wp2_with fail
      go_roundw
      case rel => exact ⟨j + 1, O9, by have := HLT.out; omega, by go_num, HPB9, Lib.hid (by rw [HT.out, List.flatMap_append, List.flatMap_cons, List.flatMap_nil, List.append_nil, ← List.append_assoc, ← HOE.out, ← HO9.out, ← HO8.out, ← HO7.out, ← HO6.out]; simp [encK, List.append_assoc]), Lib.hid (by have := HL9.out; omega)⟩
      case measure => have := HLT.out; simp [intOf]; omega
    · obtain rfl : j = U.length := by omega
      rw [List.take_of_length_le (Nat.le_refl _)] at HOE
      have HL6 := Lib.hid (show O.length ≤ 11872 by have := HOL.out; omega)
      clear hlt hj HOL
      have n36 : wo.cell? ⟨N, 36, none⟩ = some (.slice ha 0 hcp) := cell_of_blk HPO.out.box h36.out
      have hbn := cell_lt n36
      have HCB := Lib.hid (putInt102_any O _ 0 wo (by omega) (by have := HL6.out; omega) HPO.out.byg)
      go_wp2_with fail
      refine HCB.out.mono ?_
      rintro e w12 ⟨⟨v7, rfl, ho7⟩, hb7⟩
      have HPB7 := Lib.hid (HPO.out.put ho7 hb7)
      obtain ⟨va7, vc7, rfl, _⟩ := owns_shape ho7
      clear ho7 hb7
      have HL7 := Lib.hid (show (O ++ encU 0).length ≤ 11882 from by simp only [List.length_append]; have := HL6.out; have := encU_len 0 (by omega); omega)
      generalize hO7 : O ++ encU 0 = O7 at *
      have HO7 := Lib.hid hO7; clear hO7
      clear n36 hbn HCB
      have n36 : w12.cell? ⟨N, 36, none⟩ = some (.slice ha 0 hcp) := cell_of_blk HPB7.out.box h36.out
      have hbn := cell_lt n36
      go_wp2_with fail
      clear n36 hbn
      go_loopw [3, 69] (fun p i wr => p = .slice va7 O7.length vc7 ∧ i = .int .i64 0 ∧ Hid (w12 = wr)) (fun _ i _ => 0)
      case atStart => exact ⟨rfl, rfl, Lib.hid rfl⟩
      case round =>
        obtain ⟨rfl, rfl, hw⟩ := hrel
        have hw := hw.out
        subst hw
        have n37 : w12.cell? ⟨N, 37, none⟩ = some (.int .i64 wn) := cell_of_blk HPB7.out.box h37.out
        have n38 : w12.cell? ⟨N, 38, none⟩ = some (.int .i64 sn) := cell_of_blk HPB7.out.box h38.out
        have hbn := cell_lt n37
        go_upto_region 31 with (fail)
        have HK2 := Lib.hid (show ∀ W, More w12 W → (W.cell? ⟨N, 37, none⟩ = some (.int .i64 wn) ∧ W.cell? ⟨N, 38, none⟩ = some (.int .i64 sn)) from fun W h => ⟨h.cell n37, h.cell n38⟩)
        have HLL := Lib.hid (more_drew w12)
        have HP12 := Lib.hid (HPB7.out.more HLL.out)
        have HXS := Lib.hid (show wn ≤ 2 ∧ sn ≤ 200 from ⟨HSM.out.2.1, HSM.out.2.2.1⟩)
        have HLT := HXS
        refine wp_region_held_drew (S := fun W => W.cell? ⟨N, 37, none⟩ = some (.int .i64 wn) ∧ W.cell? ⟨N, 38, none⟩ = some (.int .i64 sn)) (by kernel_rfl) (HK2.out _ HLL.out) (fun hHeld => ?_)
        refine wpAnyH_take (i := 0) (v := ?_) (by simp only [List.getElem?_toArray, List.getElem?_cons_zero]; exact rfl) (by kernel_rfl) (by kernel_rfl) (by kernel_rfl) (by exact fun _ _ _ h => h) (Or.inl ⟨by kernel_rfl, ?_⟩) hHeld ?_
        rotate_left
        · intro w hSw
          (try dsimp only at hSw)
          first | (go_simp; done) | (go_simp; with_reducible rfl)
        (try simp only [Act.put, List.setIfInBounds_toArray, List.set_cons_zero, List.set_cons_succ])
        refine wpAnyH_take (i := 1) (v := ?_) (by simp only [List.getElem?_toArray, List.getElem?_cons_succ, List.getElem?_cons_zero]; exact rfl) (by kernel_rfl) (by kernel_rfl) (by kernel_rfl) (by exact fun _ _ _ h => h) (Or.inl ⟨by kernel_rfl, ?_⟩) hHeld ?_
        rotate_left
        · intro w hSw
          (try dsimp only at hSw)
          first | (go_simp; done) | (go_simp; with_reducible rfl)
        (try simp only [Act.put, List.setIfInBounds_toArray, List.set_cons_zero, List.set_cons_succ])
        refine wpAnyH_take (i := 2) (v := ?_) (by simp only [List.getElem?_toArray, List.getElem?_cons_succ, List.getElem?_cons_zero]; exact rfl) (by kernel_rfl) (by kernel_rfl) (by kernel_rfl) (by exact fun _ _ _ h => h) (Or.inl ⟨by kernel_rfl, ?_⟩) hHeld ?_
        rotate_left
        · intro w hSw
          (try dsimp only at hSw)
          first | (go_simp; done) | (go_simp; with_reducible rfl)
        (try simp only [Act.put, List.setIfInBounds_toArray, List.set_cons_zero, List.set_cons_succ])
        refine wpAnyH_take (i := 4) (v := ?_) (by simp only [List.getElem?_toArray, List.getElem?_cons_succ, List.getElem?_cons_zero]; exact rfl) (by kernel_rfl) (by kernel_rfl) (by kernel_rfl) (by exact fun _ _ _ h => h) (Or.inl ⟨by kernel_rfl, ?_⟩) hHeld ?_
        rotate_left
        · intro w hSw
          (try dsimp only at hSw)
          first | (go_simp; done) | (go_simp; with_reducible rfl)
        (try simp only [Act.put, List.setIfInBounds_toArray, List.set_cons_zero, List.set_cons_succ])
        refine wpAnyH_take (i := 5) (v := ?_) (by simp only [List.getElem?_toArray, List.getElem?_cons_succ, List.getElem?_cons_zero]; exact rfl) (by kernel_rfl) (by kernel_rfl) (by kernel_rfl) (by exact fun _ _ _ h => h) (Or.inl ⟨by kernel_rfl, ?_⟩) hHeld ?_
        rotate_left
        · intro w hSw
          (try dsimp only at hSw)
          first | (go_simp; done) | (go_simp; with_reducible rfl)
        (try simp only [Act.put, List.setIfInBounds_toArray, List.set_cons_zero, List.set_cons_succ])
        have HCB := Lib.hid (putInt102_any O7 _ wn w12.drew (by have := HXS.out; omega) (by have := HL7.out; have := HLT.out; omega) HP12.out.byg)
        refine wpAnyH_ready (rs := [3]) (by kernel_rfl) (by simp) ?_
        refine AllReadyH.cons (by simp only [List.getElem?_toArray, List.getElem?_cons_succ, List.getElem?_cons_zero]; exact rfl) (fun K hK => ?_) AllReadyH.nil
        rw [if_pos (by kernel_rfl)]
        go_simp
        refine HCB.out.mono ?_
        rintro e w13 ⟨⟨v8, rfl, ho8⟩, hb8⟩
        have HLL := Lib.hid (more_trans HLL.out (more_of hb8))
        have HPB8 := Lib.hid (HP12.out.put ho8 hb8)
        obtain ⟨va8, vc8, rfl, _⟩ := owns_shape ho8
        clear ho8 hb8
        have HL8 := Lib.hid (show (O7 ++ encU wn).length ≤ 11892 from by simp only [List.length_append]; have := HL7.out; have := HXS.out; have := encU_len wn (by omega); omega)
        generalize hO8 : O7 ++ encU wn = O8 at *
        have HO8 := Lib.hid hO8; clear hO8
        have K8 := HK2.out w13 HLL.out
        try go_wp2_with fail
        refine hK.out _ _ K8 (fun hHeld => ?_)
        clear hK K HCB
        (try simp only [Act.put, List.setIfInBounds_toArray, List.set_cons_zero, List.set_cons_succ])
        have HCB := Lib.hid (putInt102_any O8 _ sn w13 (by have := HXS.out; omega) (by have := HL8.out; have := HLT.out; omega) HPB8.out.byg)
        refine wpAnyH_ready (rs := [6]) (by kernel_rfl) (by simp) ?_
        refine AllReadyH.cons (by simp only [List.getElem?_toArray, List.getElem?_cons_succ, List.getElem?_cons_zero]; exact rfl) (fun K hK => ?_) AllReadyH.nil
        rw [if_pos (by kernel_rfl)]
        go_simp
        refine HCB.out.mono ?_
        rintro e w14 ⟨⟨v9, rfl, ho9⟩, hb9⟩
        have HLL := Lib.hid (more_trans HLL.out (more_of hb9))
        have HPB9 := Lib.hid (HPB8.out.put ho9 hb9)
        obtain ⟨va9, vc9, rfl, _⟩ := owns_shape ho9
        clear ho9 hb9
        have HL9 := Lib.hid (show (O8 ++ encU sn).length ≤ 11902 from by simp only [List.length_append]; have := HL8.out; have := HXS.out; have := encU_len sn (by omega); omega)
        generalize hO9 : O8 ++ encU sn = O9 at *
        have HO9 := Lib.hid hO9; clear hO9
        have K9 := HK2.out w14 HLL.out
        try go_wp2_with fail
        refine hK.out _ _ K9 (fun hHeld => ?_)
        clear hK K HCB
        (try simp only [Act.put, List.setIfInBounds_toArray, List.set_cons_zero, List.set_cons_succ])
        refine wpAnyH_take (i := 7) (v := ?_) (by simp only [List.getElem?_toArray, List.getElem?_cons_succ, List.getElem?_cons_zero]; exact rfl) (by kernel_rfl) (by kernel_rfl) (by kernel_rfl) (by exact fun _ _ _ h => h) (Or.inl ⟨by kernel_rfl, ?_⟩) hHeld ?_
        rotate_left
        · intro w hSw
          (try dsimp only at hSw)
          first | (go_simp; done) | (go_simp; with_reducible rfl)
        (try simp only [Act.put, List.setIfInBounds_toArray, List.set_cons_zero, List.set_cons_succ])
        refine wpAnyH_done (by kernel_rfl) ?_ _
        go_wp2_with fail
        go_ret
        have hfin : O9 = R := by
          rw [HR.out, ← HO9.out, ← HO8.out, ← HO7.out, HOE.out, ← HO5.out, ← HO4.out, ← HO3.out, ← HO2.out, ← HO1.out]
          simp [encCt, encCs, List.append_assoc]
        subst hfin
        exact ⟨⟨_, rfl, owns_base HPB9.out.own (by omega)⟩, HPB9.out.low⟩
end Go.Proofs.YtemeppfikpafbaaGreatDoor

