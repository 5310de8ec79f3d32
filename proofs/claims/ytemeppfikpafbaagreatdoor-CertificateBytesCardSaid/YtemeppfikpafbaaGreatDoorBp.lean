/- Texts ChoL, laid together. -/
import Derived.Deep.QuietTactic
import Derived.BigQuiet
import Derived.Deep.CutBlock
import Derived.StillTailTactics
import Derived.Test.YtemeppfikpafbaaGreatDoorBc
/- law17.Choices (91) at most 8: valid choices, by key, one for each key. -/
namespace Go.Proofs.YtemeppfikpafbaaGreatDoor
open Go.RowKit
theorem cgOk_of {kd a b n t d : Int} {al : List Int} (hk : 1 ≤ kd ∧ kd ≤ 9) (ha : 0 ≤ a ∧ a ≤ 2) (hn : 0 ≤ n ∧ n ≤ 3) (hb : 0 ≤ b ∧ b ≤ topB kd) (ht : 0 ≤ t ∧ t ≤ topT kd) (hd : lowD kd ≤ d ∧ d ≤ topD kd) (hl : al.length ≤ (if kd = 1 then 4 else 0)) : CgOk ⟨⟨kd, a, b, n⟩, t, d, al⟩ :=
  ⟨⟨hk.1, hk.2, ha.1, by show a ≤ 7; omega, hb.1, hb.2, hn.1, by show n ≤ 65535; omega⟩, ht.1, ht.2, hd.1, hd.2, hl⟩
theorem allocdG {w : World} {a : Addr} {v : Value} (o : Obj) (h : w.cell? ⟨a.block, a.off, none⟩ = some v) : ((w.alloc o).drew).cell? ⟨a.block, a.off, none⟩ = some v := (more_alloc w o).cell h
def I64G (n : Int) : Prop := -9223372036854775808 ≤ n ∧ n ≤ 9223372036854775807
/-- The three blocks of a round: the choice that came in, the key, the choice that is made. -/
structure ChB (M : Nat) (w W : World) (CB KB XB : Nat) (C K X : Array Value) : Prop where
  c : W.heap[CB]? = some (.cells C 58)
  k : W.heap[KB]? = some (.cells K 53)
  x : W.heap[XB]? = some (.cells X 58)
  b : Below M w W
  lc : CB < M
  hk : KB = M
  hx : XB = M + 1
theorem setHeapG {W : World} {B o : Nat} {arr : Array Value} {T : TypeId} {v : Value} (h : W.heap[B]? = some (.cells arr T)) : (W.setCell ⟨B, o, none⟩ v).heap[B]? = some (.cells (arr.setIfInBounds o v) T) := setCell_heap h
theorem ChB.setK {M : Nat} {w W : World} {CB KB XB : Nat} {C K X : Array Value} (h : ChB M w W CB KB XB C K X) (o : Nat) (v : Value) : ChB M w (W.setCell ⟨KB, o, none⟩ v) CB KB XB C (K.setIfInBounds o v) X :=
  ⟨(Below.heap_setCell _ _ _ _ (show CB ≠ KB by have := h.lc; have := h.hk; omega)).trans h.c, setHeapG h.k, (Below.heap_setCell _ _ _ _ (show XB ≠ KB by have := h.hx; have := h.hk; omega)).trans h.x, h.b.setCell (p := ⟨KB, o, none⟩) (show M ≤ KB by have := h.hk; omega) _, h.lc, h.hk, h.hx⟩
theorem ChB.setX {M : Nat} {w W : World} {CB KB XB : Nat} {C K X : Array Value} (h : ChB M w W CB KB XB C K X) (o : Nat) (v : Value) : ChB M w (W.setCell ⟨XB, o, none⟩ v) CB KB XB C K (X.setIfInBounds o v) :=
  ⟨(Below.heap_setCell _ _ _ _ (show CB ≠ XB by have := h.lc; have := h.hx; omega)).trans h.c, (Below.heap_setCell _ _ _ _ (show KB ≠ XB by have := h.hk; have := h.hx; omega)).trans h.k, setHeapG h.x, h.b.setCell (p := ⟨XB, o, none⟩) (show M ≤ XB by have := h.hx; omega) _, h.lc, h.hk, h.hx⟩
theorem ChB.more {M : Nat} {w W W' : World} {CB KB XB : Nat} {C K X : Array Value} (h : ChB M w W CB KB XB C K X) (hm : More W W') : ChB M w W' CB KB XB C K X :=
  ⟨(hm.block (blk_lt h.c)).trans h.c, (hm.block (blk_lt h.k)).trans h.k, (hm.block (blk_lt h.x)).trans h.x, h.b.trans (hm.below.mono (by have := blk_lt h.k; have := h.hk; omega)), h.lc, h.hk, h.hx⟩
theorem ChB.laid {w W : World} {CB : Nat} {C : Array Value} (h : W.heap[CB]? = some (.cells C 58)) (hw : w = W) (K X : Array Value) : ChB W.heap.size w (((W.alloc (.cells K 53)).alloc (.cells X 58)).drew) CB W.heap.size (W.heap.size + 1) C K X := by
  subst hw
  obtain ⟨h1, h2, h3⟩ := boxed2 w (.cells K 53) (.cells X 58)
  exact ⟨(h3.1.block (blk_lt h)).trans h, h1, h2, (more_trans h3.1 (more_drew _)).below, blk_lt h, rfl, rfl⟩
set_option maxRecDepth 100000 in
set_option maxHeartbeats 20000000 in
theorem choices91_any (l : List GV) (v : Value) (w : World) (hr : Row anyB w 7 l.length v (flatC gC l)) (ha : ∀ p ∈ l, GArg anyB w p) (hk : ∀ p ∈ l, 0 ≤ p.2.k.kind ∧ p.2.k.kind ≤ 255) (hl : l.length ≤ maxLen) (hll : ∀ p ∈ l, p.2.l.length ≤ maxLen) (hi : ∀ p ∈ l, ∀ n ∈ p.2.l, I64G n) :
    Calls Tryz.prog 16 #[v, .int .i64 8] w fun e w' => (∃ v' l', e = .returned v' ∧ Row anyB w' 7 l'.length v' (flatC gC l') ∧ AscG l' ∧ (∀ p ∈ l', CgOk p.2 ∧ p.2.l.length ≤ 2 ∧ (∀ n ∈ p.2.l, I64G n) ∧ GArg anyB w' p) ∧ l'.length ≤ 8) ∧ Below w.heap.size w w' := by
  obtain ⟨a, cap, rfl, _⟩ := hr.shape
  have HR := Lib.hid hr; clear hr
  have HA := Lib.hid ha; clear ha
  have HK := Lib.hid hk; clear hk
  have HLL := Lib.hid hll; clear hll
  have HIN := Lib.hid hi; clear hi
  have HL := Lib.hid hl
  unfold maxLen at hl
  obtain ⟨i0, hi0, hz0, hz1, hz2⟩ := info_parts infoG
  obtain ⟨i1, hi1, hy0, hy1, hy2⟩ := info_parts infoN
  obtain ⟨N, HN⟩ : ∃ N, Hid (N = w.heap.size) := ⟨_, Lib.hid rfl⟩
  have HMOD := Lib.hid (fun (a n : Int) (W : World) (h : 0 < n ∧ n ≤ 1000) => mod143_any a n W h.1 h.2)
  rw [← HN.out]
  go_enter Tryz.func16, Tryz.ntmps16
  go_wp2_with fail
  go_loopw [5, 6] (fun u i wr => ∃ (j : Nat) (o : List GV), j ≤ l.length ∧ j ≤ 8 ∧ i = .int .i64 j ∧ Hid (AllG N wr u o) ∧ Hid (Below N w wr) ∧ Hid (∀ p ∈ o, CgOk p.2 ∧ p.2.l.length ≤ 2 ∧ (∀ n ∈ p.2.l, I64G n) ∧ ∃ a c, p.1 = .slice a p.2.l.length c) ∧ Hid (o.length = j)) (fun _ i _ => l.length - (intOf i).toNat)
  case atStart => exact ⟨0, [], Nat.zero_le _, Nat.zero_le _, rfl, Lib.hid (AllG.nil _ _), Lib.hid (Below.refl _ _), Lib.hid (fun p h => by simp at h), Lib.hid rfl⟩
  case round =>
    obtain ⟨j, o, hj, hj8, rfl, HO, HB, HOK, HOL⟩ := hrel
    obtain ⟨wo, rfl⟩ : ∃ wo : World, wo = wr := ⟨_, rfl⟩
    have HMW := Lib.hid (show More w wo from by have := HB.out; rw [HN.out] at this; exact more_of this)
    have HNO := Lib.hid (show N ≤ wo.heap.size by rw [HN.out]; exact HMW.out.size)
    obtain ⟨oa, oc, rfl, _⟩ := owns_shape HO.out.own
    by_cases hlt : j < l.length
    · by_cases hlt8 : j < 8
      · have jz8 : (j : Int) < 8 := by omega
        obtain ⟨b, off, rfl, _, hc⟩ := HR.out.atC gC_len hlt
        have g0 := HMW.out.cell (hc 0 (.int .u8 l[j].2.k.kind) rfl)
        have g1 := HMW.out.cell (hc 1 (.int .i64 l[j].2.k.a) rfl)
        have g2 := HMW.out.cell (hc 2 (.int .i64 l[j].2.k.b) rfl)
        have g3 := HMW.out.cell (hc 3 (.int .i64 l[j].2.k.n) rfl)
        have g4 := HMW.out.cell (hc 4 (.int .i64 l[j].2.t) rfl)
        have g5 := HMW.out.cell (hc 5 (.int .i64 l[j].2.d) rfl)
        have g6 := HMW.out.cell (hc 6 l[j].1 rfl)
        rw [Nat.add_zero] at g0
        clear hc
        have HGA := Lib.hid ((HA.out _ (List.getElem_mem hlt)).more HMW.out)
        have HGL := Lib.hid (HLL.out _ (List.getElem_mem hlt))
        have HKD := Lib.hid (HK.out _ (List.getElem_mem hlt))
        have HI64 := Lib.hid (HIN.out _ (List.getElem_mem hlt))
        have HLT := Lib.hid hlt
        generalize l[j] = c at *
        obtain ⟨cv, ⟨⟨kd, ka, kb, kn⟩, ct, cd, cl⟩⟩ := c
        dsimp only at *
        have hrs := HGA.out.row
        dsimp only at hrs
        obtain ⟨ca, cc, rfl, hcc⟩ := hrs.shape
        clear hrs
        have hbg := cell_lt g0
        have HXC := Lib.hid (alloc_last wo (.cells #[.int .u8 kd, .int .i64 ka, .int .i64 kb, .int .i64 kn, .int .i64 ct, .int .i64 cd, .slice ca cl.length cc] 58))
        have HM5 := Lib.hid (more_alloc wo (.cells #[.int .u8 kd, .int .i64 ka, .int .i64 kb, .int .i64 kn, .int .i64 ct, .int .i64 cd, .slice ca cl.length cc] 58))
        generalize hcl : cl.length = cn at *
        have HCL := Lib.hid hcl; clear hcl
        go_upto_region 6 with (fail)
        clear g0 g1 g2 g3 g4 g5 g6 hbg
        generalize wo.alloc (.cells #[.int .u8 kd, .int .i64 ka, .int .i64 kb, .int .i64 kn, .int .i64 ct, .int .i64 cd, .slice ca cn cc] 58) = w5 at *
        obtain ⟨CB, HCB⟩ : ∃ CB, Hid (CB = wo.heap.size) := ⟨_, Lib.hid rfl⟩
        rw [← HCB.out] at HXC ⊢
        obtain ⟨r, hr1, hr2, hr3, hr4⟩ := tmod_mod (a := kd) (n := 9) (by omega)
        have hkd := HKD.out
        have hr0 : 0 ≤ r := by rw [← hr1, Int.tmod_eq_emod_of_nonneg hkd.1]; exact Int.emod_nonneg _ (by omega)
        have hrr : kd % 9 = r := by rw [← hr1, Int.tmod_eq_emod_of_nonneg hkd.1]
        rw [hrr] at hr4
        have hw1 : IntKind.u8.wrap (r + 9) = r + 9 := by rw [IntKind.wrap_u8']; omega
        have hw2 : IntKind.u8.wrap (1 + r) = 1 + r := by rw [IntKind.wrap_u8']; omega
        have c0 : w5.cell? ⟨CB, 0, none⟩ = some (.int .u8 kd) := cell_of_blk HXC.out rfl
        have c1 : w5.cell? ⟨CB, 1, none⟩ = some (.int .i64 ka) := cell_of_blk HXC.out rfl
        have c3 : w5.cell? ⟨CB, 3, none⟩ = some (.int .i64 kn) := cell_of_blk HXC.out rfl
        have d0 : w5.drew.cell? ⟨CB, 0, none⟩ = some (.int .u8 kd) := c0
        have d1 : w5.drew.cell? ⟨CB, 1, none⟩ = some (.int .i64 ka) := c1
        have d3 : w5.drew.cell? ⟨CB, 3, none⟩ = some (.int .i64 kn) := c3
        clear hrr hkd
        go_region_held3 (fun W => W.cell? ⟨CB, 0, none⟩ = some (.int .u8 kd) ∧ W.cell? ⟨CB, 1, none⟩ = some (.int .i64 ka) ∧ W.cell? ⟨CB, 3, none⟩ = some (.int .i64 kn)) (first | with_reducible exact ⟨c0, c1, c3⟩ | with_reducible exact ⟨d0, d1, d3⟩ | with_reducible exact ⟨allocdG (a := ⟨CB, 0, none⟩) _ c0, allocdG (a := ⟨CB, 1, none⟩) _ c1, allocdG (a := ⟨CB, 3, none⟩) _ c3⟩) (first
          | (go_at_call 51; refine (HMOD.out _ _ _ (by decide)).mono ?_; rintro e wA ⟨rfl, hwA⟩; have hwA := hwA.symm; subst hwA))
        all_goals
          clear c0 c1 c3 d0 d1 d3 hr1 hr4 hw1 hw2
          have ha0 : 0 ≤ ka % 3 ∧ ka % 3 ≤ 2 := by omega
          have hn0 : 0 ≤ kn % 4 ∧ kn % 4 ≤ 3 := by omega
          have HKI := Lib.hid (show 1 ≤ 1 + r ∧ 1 + r ≤ 9 by omega)
          have hrc : 1 + r = 1 ∨ 1 + r = 2 ∨ 1 + r = 3 ∨ 1 + r = 4 ∨ 1 + r = 5 ∨ 1 + r = 6 ∨ 1 + r = 7 ∨ 1 + r = 8 ∨ 1 + r = 9 := by omega
          have HRC := Lib.hid hrc
          have HAI := Lib.hid ha0
          have HNI := Lib.hid hn0
          clear hrc ha0 hn0 hr0 hr2 hr3
          generalize ka % 3 = a3 at *
          generalize kn % 4 = n4 at *
          generalize 1 + r = k1 at *
          go_upto_region 8 with (fail)
          have HCH := Lib.hid (ChB.laid HXC.out rfl #[.int .u8 k1, .int .i64 a3, .int .i64 0, .int .i64 n4] #[.int .u8 0, .int .i64 0, .int .i64 0, .int .i64 0, .int .i64 0, .int .i64 0, .slice none 0 0])
          generalize ((w5.alloc (.cells #[.int .u8 k1, .int .i64 a3, .int .i64 0, .int .i64 n4] 53)).alloc (.cells #[.int .u8 0, .int .i64 0, .int .i64 0, .int .i64 0, .int .i64 0, .int .i64 0, .slice none 0 0] 58)).drew = w7 at *
          obtain ⟨KB, HKB⟩ : ∃ KB, Hid (KB = w5.heap.size) := ⟨_, Lib.hid rfl⟩
          rw [← HKB.out] at HCH ⊢
          obtain ⟨XB, HXB⟩ : ∃ XB, Hid (XB = KB + 1) := ⟨_, Lib.hid rfl⟩
          rw [← HXB.out] at HCH ⊢
          have k0 : w7.cell? ⟨KB, 0, none⟩ = some (.int .u8 k1) := cell_of_blk HCH.out.k rfl
          have hbk := cell_lt k0
          go_upto_block 2 with (fail)
          clear k0 hbk
          go_cut [] (fun wx => ∃ (b t d : Int) (al : List Int) (av : Value), Hid (ChB KB w5 wx CB KB XB #[.int .u8 kd, .int .i64 ka, .int .i64 kb, .int .i64 kn, .int .i64 ct, .int .i64 cd, .slice ca cn cc] #[.int .u8 k1, .int .i64 a3, .int .i64 b, .int .i64 n4] #[.int .u8 0, .int .i64 0, .int .i64 0, .int .i64 0, .int .i64 t, .int .i64 d, av]) ∧ Hid (CgOk ⟨⟨k1, a3, b, n4⟩, t, d, al⟩ ∧ al.length ≤ 2 ∧ ∀ n ∈ al, I64G n) ∧ Hid (Row (fun z => KB ≤ z ∧ z ≠ XB) wx 1 al.length av (flatC nC al) ∧ NilA av))
          case first =>
            rcases HRC.out with rfl | rfl | rfl | rfl | rfl | rfl | rfl | rfl | rfl
            · obtain ⟨q, HQ⟩ : ∃ q, Hid ((cl.take 2).length = q) := ⟨_, Lib.hid rfl⟩
              have hq : q ≤ cn ∧ q ≤ 2 ∧ min (cn : Int) 2 = (q : Int) := by have h1 := HQ.out; rw [List.length_take, HCL.out] at h1; omega
              have c2 : w7.cell? ⟨CB, 2, none⟩ = some (.int .i64 kb) := cell_of_blk HCH.out.c rfl
              have hbc := cell_lt c2
              have z2 : w7.cell? ⟨KB, 2, none⟩ = some (.int .i64 0) := cell_of_blk HCH.out.k rfl
              have f2 := thaw HCH.out.k 2
              have hbz := cell_lt z2
              go_upto_region 11 with (go_at_call 51; refine (HMOD.out _ _ _ (by decide)).mono ?_; rintro e wA ⟨rfl, hwA⟩; have hwA := hwA.symm; subst hwA)
              have HC8 := Lib.hid (show ChB KB w5 (w7.setCell ⟨KB, 2, none⟩ (.int .i64 (kb % 3))) CB KB XB #[.int .u8 kd, .int .i64 ka, .int .i64 kb, .int .i64 kn, .int .i64 ct, .int .i64 cd, .slice ca cn cc] #[.int .u8 1, .int .i64 a3, .int .i64 (kb % 3), .int .i64 n4] #[.int .u8 0, .int .i64 0, .int .i64 0, .int .i64 0, .int .i64 0, .int .i64 0, .slice none 0 0] from HCH.out.setK 2 (.int .i64 (kb % 3)))
              clear c2 z2 f2 hbc hbz
              generalize w7.setCell ⟨KB, 2, none⟩ (.int .i64 (kb % 3)) = w8 at *
              have c4 : w8.cell? ⟨CB, 4, none⟩ = some (.int .i64 ct) := cell_of_blk HC8.out.c rfl
              have hbc := cell_lt c4
              have z4 : w8.cell? ⟨XB, 4, none⟩ = some (.int .i64 0) := cell_of_blk HC8.out.x rfl
              have f4 := thaw HC8.out.x 4
              have hbz := cell_lt z4
              go_upto_region 12 with (go_at_call 51; refine (HMOD.out _ _ _ (by decide)).mono ?_; rintro e wA ⟨rfl, hwA⟩; have hwA := hwA.symm; subst hwA)
              have HC9 := Lib.hid (show ChB KB w5 (w8.setCell ⟨XB, 4, none⟩ (.int .i64 (ct % 13))) CB KB XB #[.int .u8 kd, .int .i64 ka, .int .i64 kb, .int .i64 kn, .int .i64 ct, .int .i64 cd, .slice ca cn cc] #[.int .u8 1, .int .i64 a3, .int .i64 (kb % 3), .int .i64 n4] #[.int .u8 0, .int .i64 0, .int .i64 0, .int .i64 0, .int .i64 (ct % 13), .int .i64 0, .slice none 0 0] from HC8.out.setX 4 (.int .i64 (ct % 13)))
              clear c4 z4 f4 hbc hbz
              generalize w8.setCell ⟨XB, 4, none⟩ (.int .i64 (ct % 13)) = w9 at *
              have c6 : w9.cell? ⟨CB, 6, none⟩ = some (.slice ca cn cc) := cell_of_blk HC9.out.c rfl
              have hbc := cell_lt c6
              have z6 : w9.cell? ⟨XB, 6, none⟩ = some (.slice none 0 0) := cell_of_blk HC9.out.x rfl
              have f6 := thaw HC9.out.x 6
              have hbz := cell_lt z6
              obtain ⟨hsl, hrt, hnt⟩ := take111 (p := q) hq.1 HCL.out (show Row anyB w9 1 cn (.slice ca cn cc) (flatC nC cl) from by
                  have h1 := HGA.out.row
                  dsimp only at h1
                  rw [HCL.out] at h1
                  exact (h1.below HM5.out.below).below (by rw [← HKB.out]; exact HC9.out.b)) HGA.out.nil
              have HTL := Lib.hid (show cl.take q = cl.take 2 by rw [← HQ.out, List.length_take]; exact List.take_eq_take_min.symm)
              rw [HTL.out] at hrt
              rw [HQ.out] at hrt
              have HRT := Lib.hid hrt; clear hrt
              have HNT := Lib.hid hnt; clear hnt
              have hq1 := hq.1
              have hq2 := hq.2.1
              have hq3 := hq.2.2
              clear hq
              go_still_tail 9, (by kernel_rfl)
              change wpList _ _ _ _ _ w9.drew
              have HC9d := Lib.hid (HC9.out.more (more_drew w9))
              have HRTd := Lib.hid (HRT.out.below (more_drew w9).below)
              generalize w9.drew = wd at *
              clear c6 z6 f6 hbc hbz hsl
              go_upto_region 30 with (at_builtin; refine wpList_append_rowC rfl _ _ 56 rfl wd.heap.size 2 i1 _ 1 8 Tryz.underlying56 hi1 hy0 hy1 hy2 rfl (by omega) (.slice none 0 0) 0 [] rfl (World.ownsRow_nil _ _ _ _) (.slice ca q cc) q (flatC nC (cl.take 2)) rfl HRTd.out HNT.out (nC_one _) (by unfold maxLen; omega) (by omega) (Nat.le_refl _) ?_; intro v10 w10 hown10 hgrow10; rw [Nat.zero_add] at hown10; obtain ⟨ga, gc, rfl, _⟩ := owns_shape hown10; have HC10 := Lib.hid (HC9d.out.more (show More wd w10 from hgrow10)); have z6 : w10.cell? ⟨XB, 6, none⟩ = some (.slice none 0 0) := cell_of_blk HC10.out.x rfl; have f6 := thaw HC10.out.x 6; have hbz := cell_lt z6)
              have HRA := Lib.hid (Row.of_owns hown10)
              have HNA := Lib.hid (owns_nil hown10)
              have HSD := Lib.hid (show KB ≤ wd.heap.size ∧ XB < wd.heap.size from ⟨by have := blk_lt HC9d.out.k; have := HC9d.out.hk; omega, blk_lt HC9d.out.x⟩)
              clear hown10 hgrow10 z6 f6 hbz
              go_meet
              case rel => exact ⟨kb % 3, ct % 13, 0, cl.take 2, .slice ga q gc, Lib.hid (show ChB KB w5 _ CB KB XB #[.int .u8 kd, .int .i64 ka, .int .i64 kb, .int .i64 kn, .int .i64 ct, .int .i64 cd, .slice ca cn cc] #[.int .u8 1, .int .i64 a3, .int .i64 (kb % 3), .int .i64 n4] #[.int .u8 0, .int .i64 0, .int .i64 0, .int .i64 0, .int .i64 (ct % 13), .int .i64 0, .slice ga q gc] from HC10.out.setX 6 (.slice ga q gc)), Lib.hid ⟨cgOk_of HKI.out HAI.out HNI.out (by rw [show topB 1 = 7 by decide]; omega) (by rw [show topT 1 = 200 by decide]; omega) (by rw [show lowD 1 = 0 by decide, show topD 1 = 0 by decide]; omega) (by rw [if_pos rfl, List.length_take]; omega), by rw [List.length_take]; omega, fun n hn => HI64.out n (List.mem_of_mem_take hn)⟩, Lib.hid ⟨by rw [HQ.out]; exact (HRA.out.mono (S' := fun z => KB ≤ z ∧ z ≠ XB) (fun z hz => by have h1 := HSD.out; have h2 : wd.heap.size ≤ z := hz; omega) (fun _ _ _ _ h => h)).mono (fun z hz => hz) (fun z o u hz h => by rw [← h]; exact World.cell?_of_block (Below.heap_setCell _ _ _ _ hz.2)), HNA.out⟩⟩
            · skip
              have c4 : w7.cell? ⟨CB, 4, none⟩ = some (.int .i64 ct) := cell_of_blk HCH.out.c rfl
              have c5 : w7.cell? ⟨CB, 5, none⟩ = some (.int .i64 cd) := cell_of_blk HCH.out.c rfl
              have hbc := cell_lt c4
              have z4 : w7.cell? ⟨XB, 4, none⟩ = some (.int .i64 0) := cell_of_blk HCH.out.x rfl
              have f4 := thaw HCH.out.x 4
              have z5 : w7.cell? ⟨XB, 5, none⟩ = some (.int .i64 0) := cell_of_blk HCH.out.x rfl
              have f5 := thaw HCH.out.x 5
              have hbz := cell_lt z4
              have d4 : w7.drew.cell? ⟨CB, 4, none⟩ = some (.int .i64 ct) := cell_of_blk HCH.out.c rfl
              have d5 : w7.drew.cell? ⟨CB, 5, none⟩ = some (.int .i64 cd) := cell_of_blk HCH.out.c rfl
              have hbd := cell_lt d4
              have HS1 := HCH.out.setX 4 (.int .i64 (ct % 13))
              have HS2 := HS1.setX 5 (.int .i64 (cd % 2))
              have e4 : (w7.setCell ⟨XB, 4, none⟩ (.int .i64 (ct % 13))).drew.cell? ⟨CB, 4, none⟩ = some (.int .i64 ct) := cell_of_blk HS1.c rfl
              have e5 : (w7.setCell ⟨XB, 4, none⟩ (.int .i64 (ct % 13))).drew.cell? ⟨CB, 5, none⟩ = some (.int .i64 cd) := cell_of_blk HS1.c rfl
              have hbe := cell_lt e4
              have g4 : ((w7.setCell ⟨XB, 4, none⟩ (.int .i64 (ct % 13))).setCell ⟨XB, 5, none⟩ (.int .i64 (cd % 2))).drew.cell? ⟨CB, 4, none⟩ = some (.int .i64 ct) := cell_of_blk HS2.c rfl
              have g5 : ((w7.setCell ⟨XB, 4, none⟩ (.int .i64 (ct % 13))).setCell ⟨XB, 5, none⟩ (.int .i64 (cd % 2))).drew.cell? ⟨CB, 5, none⟩ = some (.int .i64 cd) := cell_of_blk HS2.c rfl
              have hbg := cell_lt g4
              clear hbd hbe hbg
              go_upto_region 14 with (fail)
              go_region_held3 (fun W => W.cell? ⟨CB, 4, none⟩ = some (.int .i64 ct) ∧ W.cell? ⟨CB, 5, none⟩ = some (.int .i64 cd)) (first | with_reducible exact ⟨c4, c5⟩ | with_reducible exact ⟨d4, d5⟩ | with_reducible exact ⟨e4, e5⟩ | with_reducible exact ⟨g4, g5⟩) (first | (go_at_call 51; refine (HMOD.out _ _ _ (by decide)).mono ?_; rintro e wA ⟨rfl, hwA⟩; have hwA := hwA.symm; subst hwA))
              have HCF := Lib.hid (show ChB KB w5 (((w7.setCell ⟨XB, 4, none⟩ (.int .i64 (ct % 13))).setCell ⟨XB, 5, none⟩ (.int .i64 (cd % 2))).drew) CB KB XB #[.int .u8 kd, .int .i64 ka, .int .i64 kb, .int .i64 kn, .int .i64 ct, .int .i64 cd, .slice ca cn cc] #[.int .u8 2, .int .i64 a3, .int .i64 0, .int .i64 n4] #[.int .u8 0, .int .i64 0, .int .i64 0, .int .i64 0, .int .i64 (ct % 13), .int .i64 (cd % 2), .slice none 0 0] from HS2.more (more_drew _))
              clear HS1 HS2 c4 c5 d4 d5 e4 e5 g4 g5 z4 z5 f4 f5
              go_wp2_with fail
              go_meet
              case rel => exact ⟨0, ct % 13, cd % 2, [], .slice none 0 0, Lib.hid (HCF.out), Lib.hid ⟨cgOk_of HKI.out HAI.out HNI.out (by rw [show topB 2 = 0 by decide]; omega) (by rw [show topT 2 = 200 by decide]; omega) (by rw [show lowD 2 = 0 by decide, show topD 2 = 1 by decide]; omega) (Nat.zero_le _), Nat.zero_le _, fun n hn => by simp at hn⟩, Lib.hid ⟨Row.nil _ _ _ _ _, fun n c e => by cases e; rfl⟩⟩
            · skip
              have c4 : w7.cell? ⟨CB, 4, none⟩ = some (.int .i64 ct) := cell_of_blk HCH.out.c rfl
              have c5 : w7.cell? ⟨CB, 5, none⟩ = some (.int .i64 cd) := cell_of_blk HCH.out.c rfl
              have hbc := cell_lt c4
              have z4 : w7.cell? ⟨XB, 4, none⟩ = some (.int .i64 0) := cell_of_blk HCH.out.x rfl
              have f4 := thaw HCH.out.x 4
              have z5 : w7.cell? ⟨XB, 5, none⟩ = some (.int .i64 0) := cell_of_blk HCH.out.x rfl
              have f5 := thaw HCH.out.x 5
              have hbz := cell_lt z4
              have d4 : w7.drew.cell? ⟨CB, 4, none⟩ = some (.int .i64 ct) := cell_of_blk HCH.out.c rfl
              have d5 : w7.drew.cell? ⟨CB, 5, none⟩ = some (.int .i64 cd) := cell_of_blk HCH.out.c rfl
              have hbd := cell_lt d4
              have HS1 := HCH.out.setX 4 (.int .i64 (ct % 13))
              have HS2 := HS1.setX 5 (.int .i64 (1 + cd % 3))
              have e4 : (w7.setCell ⟨XB, 4, none⟩ (.int .i64 (ct % 13))).drew.cell? ⟨CB, 4, none⟩ = some (.int .i64 ct) := cell_of_blk HS1.c rfl
              have e5 : (w7.setCell ⟨XB, 4, none⟩ (.int .i64 (ct % 13))).drew.cell? ⟨CB, 5, none⟩ = some (.int .i64 cd) := cell_of_blk HS1.c rfl
              have hbe := cell_lt e4
              have g4 : ((w7.setCell ⟨XB, 4, none⟩ (.int .i64 (ct % 13))).setCell ⟨XB, 5, none⟩ (.int .i64 (1 + cd % 3))).drew.cell? ⟨CB, 4, none⟩ = some (.int .i64 ct) := cell_of_blk HS2.c rfl
              have g5 : ((w7.setCell ⟨XB, 4, none⟩ (.int .i64 (ct % 13))).setCell ⟨XB, 5, none⟩ (.int .i64 (1 + cd % 3))).drew.cell? ⟨CB, 5, none⟩ = some (.int .i64 cd) := cell_of_blk HS2.c rfl
              have hbg := cell_lt g4
              clear hbd hbe hbg
              have hwd : IntKind.i64.wrap (1 + cd % 3) = 1 + cd % 3 := by rw [IntKind.wrap_i64]; omega
              go_upto_region 16 with (fail)
              go_region_held3 (fun W => W.cell? ⟨CB, 4, none⟩ = some (.int .i64 ct) ∧ W.cell? ⟨CB, 5, none⟩ = some (.int .i64 cd)) (first | with_reducible exact ⟨c4, c5⟩ | with_reducible exact ⟨d4, d5⟩ | with_reducible exact ⟨e4, e5⟩ | with_reducible exact ⟨g4, g5⟩) (first | (go_at_call 51; refine (HMOD.out _ _ _ (by decide)).mono ?_; rintro e wA ⟨rfl, hwA⟩; have hwA := hwA.symm; subst hwA))
              have HCF := Lib.hid (show ChB KB w5 (((w7.setCell ⟨XB, 4, none⟩ (.int .i64 (ct % 13))).setCell ⟨XB, 5, none⟩ (.int .i64 (1 + cd % 3))).drew) CB KB XB #[.int .u8 kd, .int .i64 ka, .int .i64 kb, .int .i64 kn, .int .i64 ct, .int .i64 cd, .slice ca cn cc] #[.int .u8 3, .int .i64 a3, .int .i64 0, .int .i64 n4] #[.int .u8 0, .int .i64 0, .int .i64 0, .int .i64 0, .int .i64 (ct % 13), .int .i64 (1 + cd % 3), .slice none 0 0] from HS2.more (more_drew _))
              clear HS1 HS2 c4 c5 d4 d5 e4 e5 g4 g5 z4 z5 f4 f5
              go_wp2_with fail
              go_meet
              case rel => exact ⟨0, ct % 13, 1 + cd % 3, [], .slice none 0 0, Lib.hid (HCF.out), Lib.hid ⟨cgOk_of HKI.out HAI.out HNI.out (by rw [show topB 3 = 0 by decide]; omega) (by rw [show topT 3 = 200 by decide]; omega) (by rw [show lowD 3 = 1 by decide, show topD 3 = 3 by decide]; omega) (Nat.zero_le _), Nat.zero_le _, fun n hn => by simp at hn⟩, Lib.hid ⟨Row.nil _ _ _ _ _, fun n c e => by cases e; rfl⟩⟩
            · skip
              have c4 : w7.cell? ⟨CB, 4, none⟩ = some (.int .i64 ct) := cell_of_blk HCH.out.c rfl
              have hbc := cell_lt c4
              have z4 : w7.cell? ⟨XB, 4, none⟩ = some (.int .i64 0) := cell_of_blk HCH.out.x rfl
              have f4 := thaw HCH.out.x 4
              have hbz := cell_lt z4
              go_wp2_with (go_at_call 51; refine (HMOD.out _ _ _ (by decide)).mono ?_; rintro e wA ⟨rfl, hwA⟩; have hwA := hwA.symm; subst hwA)
              go_meet
              case rel => exact ⟨0, ct % 13, 0, [], .slice none 0 0, Lib.hid (show ChB KB w5 _ CB KB XB #[.int .u8 kd, .int .i64 ka, .int .i64 kb, .int .i64 kn, .int .i64 ct, .int .i64 cd, .slice ca cn cc] #[.int .u8 4, .int .i64 a3, .int .i64 0, .int .i64 n4] #[.int .u8 0, .int .i64 0, .int .i64 0, .int .i64 0, .int .i64 (ct % 13), .int .i64 0, .slice none 0 0] from HCH.out.setX 4 (.int .i64 (ct % 13))), Lib.hid ⟨cgOk_of HKI.out HAI.out HNI.out (by rw [show topB 4 = 0 by decide]; omega) (by rw [show topT 4 = 200 by decide]; omega) (by rw [show lowD 4 = 0 by decide, show topD 4 = 0 by decide]; omega) (Nat.zero_le _), Nat.zero_le _, fun n hn => by simp at hn⟩, Lib.hid ⟨Row.nil _ _ _ _ _, fun n c e => by cases e; rfl⟩⟩
            · skip
              have c2 : w7.cell? ⟨CB, 2, none⟩ = some (.int .i64 kb) := cell_of_blk HCH.out.c rfl
              have hbc := cell_lt c2
              have z2 : w7.cell? ⟨KB, 2, none⟩ = some (.int .i64 0) := cell_of_blk HCH.out.k rfl
              have f2 := thaw HCH.out.k 2
              have hbz := cell_lt z2
              go_wp2_with (go_at_call 51; refine (HMOD.out _ _ _ (by decide)).mono ?_; rintro e wA ⟨rfl, hwA⟩; have hwA := hwA.symm; subst hwA)
              go_meet
              case rel => exact ⟨kb % 3, 0, 0, [], .slice none 0 0, Lib.hid (show ChB KB w5 _ CB KB XB #[.int .u8 kd, .int .i64 ka, .int .i64 kb, .int .i64 kn, .int .i64 ct, .int .i64 cd, .slice ca cn cc] #[.int .u8 5, .int .i64 a3, .int .i64 (kb % 3), .int .i64 n4] #[.int .u8 0, .int .i64 0, .int .i64 0, .int .i64 0, .int .i64 0, .int .i64 0, .slice none 0 0] from HCH.out.setK 2 (.int .i64 (kb % 3))), Lib.hid ⟨cgOk_of HKI.out HAI.out HNI.out (by rw [show topB 5 = 7 by decide]; omega) (by rw [show topT 5 = 0 by decide]; omega) (by rw [show lowD 5 = 0 by decide, show topD 5 = 0 by decide]; omega) (Nat.zero_le _), Nat.zero_le _, fun n hn => by simp at hn⟩, Lib.hid ⟨Row.nil _ _ _ _ _, fun n c e => by cases e; rfl⟩⟩
            · skip
              have c2 : w7.cell? ⟨CB, 2, none⟩ = some (.int .i64 kb) := cell_of_blk HCH.out.c rfl
              have hbc := cell_lt c2
              have z2 : w7.cell? ⟨KB, 2, none⟩ = some (.int .i64 0) := cell_of_blk HCH.out.k rfl
              have f2 := thaw HCH.out.k 2
              have hbz := cell_lt z2
              go_upto_region 23 with (go_at_call 51; refine (HMOD.out _ _ _ (by decide)).mono ?_; rintro e wA ⟨rfl, hwA⟩; have hwA := hwA.symm; subst hwA)
              have HC8 := Lib.hid (show ChB KB w5 (w7.setCell ⟨KB, 2, none⟩ (.int .i64 (kb % 3))) CB KB XB #[.int .u8 kd, .int .i64 ka, .int .i64 kb, .int .i64 kn, .int .i64 ct, .int .i64 cd, .slice ca cn cc] #[.int .u8 6, .int .i64 a3, .int .i64 (kb % 3), .int .i64 n4] #[.int .u8 0, .int .i64 0, .int .i64 0, .int .i64 0, .int .i64 0, .int .i64 0, .slice none 0 0] from HCH.out.setK 2 (.int .i64 (kb % 3)))
              clear c2 z2 f2 hbc hbz
              generalize w7.setCell ⟨KB, 2, none⟩ (.int .i64 (kb % 3)) = w8 at *
              have c5 : w8.cell? ⟨CB, 5, none⟩ = some (.int .i64 cd) := cell_of_blk HC8.out.c rfl
              have hbc := cell_lt c5
              have z5 : w8.cell? ⟨XB, 5, none⟩ = some (.int .i64 0) := cell_of_blk HC8.out.x rfl
              have f5 := thaw HC8.out.x 5
              have hbz := cell_lt z5
              go_wp2_with (go_at_call 51; refine (HMOD.out _ _ _ (by decide)).mono ?_; rintro e wA ⟨rfl, hwA⟩; have hwA := hwA.symm; subst hwA)
              go_meet
              case rel => exact ⟨kb % 3, 0, 1 + cd % 5, [], .slice none 0 0, Lib.hid (show ChB KB w5 _ CB KB XB #[.int .u8 kd, .int .i64 ka, .int .i64 kb, .int .i64 kn, .int .i64 ct, .int .i64 cd, .slice ca cn cc] #[.int .u8 6, .int .i64 a3, .int .i64 (kb % 3), .int .i64 n4] #[.int .u8 0, .int .i64 0, .int .i64 0, .int .i64 0, .int .i64 0, .int .i64 (1 + cd % 5), .slice none 0 0] from HC8.out.setX 5 (.int .i64 (1 + cd % 5))), Lib.hid ⟨cgOk_of HKI.out HAI.out HNI.out (by rw [show topB 6 = 7 by decide]; omega) (by rw [show topT 6 = 0 by decide]; omega) (by rw [show lowD 6 = 1 by decide, show topD 6 = 200 by decide]; omega) (Nat.zero_le _), Nat.zero_le _, fun n hn => by simp at hn⟩, Lib.hid ⟨Row.nil _ _ _ _ _, fun n c e => by cases e; rfl⟩⟩
            · skip
              have c2 : w7.cell? ⟨CB, 2, none⟩ = some (.int .i64 kb) := cell_of_blk HCH.out.c rfl
              have hbc := cell_lt c2
              have z2 : w7.cell? ⟨KB, 2, none⟩ = some (.int .i64 0) := cell_of_blk HCH.out.k rfl
              have f2 := thaw HCH.out.k 2
              have hbz := cell_lt z2
              go_upto_region 26 with (go_at_call 51; refine (HMOD.out _ _ _ (by decide)).mono ?_; rintro e wA ⟨rfl, hwA⟩; have hwA := hwA.symm; subst hwA)
              have HC8 := Lib.hid (show ChB KB w5 (w7.setCell ⟨KB, 2, none⟩ (.int .i64 (kb % 3))) CB KB XB #[.int .u8 kd, .int .i64 ka, .int .i64 kb, .int .i64 kn, .int .i64 ct, .int .i64 cd, .slice ca cn cc] #[.int .u8 7, .int .i64 a3, .int .i64 (kb % 3), .int .i64 n4] #[.int .u8 0, .int .i64 0, .int .i64 0, .int .i64 0, .int .i64 0, .int .i64 0, .slice none 0 0] from HCH.out.setK 2 (.int .i64 (kb % 3)))
              clear c2 z2 f2 hbc hbz
              generalize w7.setCell ⟨KB, 2, none⟩ (.int .i64 (kb % 3)) = w8 at *
              have c5 : w8.cell? ⟨CB, 5, none⟩ = some (.int .i64 cd) := cell_of_blk HC8.out.c rfl
              have hbc := cell_lt c5
              have z5 : w8.cell? ⟨XB, 5, none⟩ = some (.int .i64 0) := cell_of_blk HC8.out.x rfl
              have f5 := thaw HC8.out.x 5
              have hbz := cell_lt z5
              go_wp2_with (go_at_call 51; refine (HMOD.out _ _ _ (by decide)).mono ?_; rintro e wA ⟨rfl, hwA⟩; have hwA := hwA.symm; subst hwA)
              go_meet
              case rel => exact ⟨kb % 3, 0, cd % 4, [], .slice none 0 0, Lib.hid (show ChB KB w5 _ CB KB XB #[.int .u8 kd, .int .i64 ka, .int .i64 kb, .int .i64 kn, .int .i64 ct, .int .i64 cd, .slice ca cn cc] #[.int .u8 7, .int .i64 a3, .int .i64 (kb % 3), .int .i64 n4] #[.int .u8 0, .int .i64 0, .int .i64 0, .int .i64 0, .int .i64 0, .int .i64 (cd % 4), .slice none 0 0] from HC8.out.setX 5 (.int .i64 (cd % 4))), Lib.hid ⟨cgOk_of HKI.out HAI.out HNI.out (by rw [show topB 7 = 7 by decide]; omega) (by rw [show topT 7 = 0 by decide]; omega) (by rw [show lowD 7 = 0 by decide, show topD 7 = 200 by decide]; omega) (Nat.zero_le _), Nat.zero_le _, fun n hn => by simp at hn⟩, Lib.hid ⟨Row.nil _ _ _ _ _, fun n c e => by cases e; rfl⟩⟩
            · skip
              go_wp2_with fail
              go_meet
              case rel => exact ⟨0, 0, 0, [], .slice none 0 0, Lib.hid (HCH.out), Lib.hid ⟨cgOk_of HKI.out HAI.out HNI.out (by rw [show topB 8 = 0 by decide]; omega) (by rw [show topT 8 = 0 by decide]; omega) (by rw [show lowD 8 = 0 by decide, show topD 8 = 0 by decide]; omega) (Nat.zero_le _), Nat.zero_le _, fun n hn => by simp at hn⟩, Lib.hid ⟨Row.nil _ _ _ _ _, fun n c e => by cases e; rfl⟩⟩
            · skip
              have c5 : w7.cell? ⟨CB, 5, none⟩ = some (.int .i64 cd) := cell_of_blk HCH.out.c rfl
              have hbc := cell_lt c5
              have z5 : w7.cell? ⟨XB, 5, none⟩ = some (.int .i64 0) := cell_of_blk HCH.out.x rfl
              have f5 := thaw HCH.out.x 5
              have hbz := cell_lt z5
              go_wp2_with (go_at_call 51; refine (HMOD.out _ _ _ (by decide)).mono ?_; rintro e wA ⟨rfl, hwA⟩; have hwA := hwA.symm; subst hwA)
              go_meet
              case rel => exact ⟨0, 0, 1 + cd % 5, [], .slice none 0 0, Lib.hid (show ChB KB w5 _ CB KB XB #[.int .u8 kd, .int .i64 ka, .int .i64 kb, .int .i64 kn, .int .i64 ct, .int .i64 cd, .slice ca cn cc] #[.int .u8 9, .int .i64 a3, .int .i64 0, .int .i64 n4] #[.int .u8 0, .int .i64 0, .int .i64 0, .int .i64 0, .int .i64 0, .int .i64 (1 + cd % 5), .slice none 0 0] from HCH.out.setX 5 (.int .i64 (1 + cd % 5))), Lib.hid ⟨cgOk_of HKI.out HAI.out HNI.out (by rw [show topB 9 = 0 by decide]; omega) (by rw [show topT 9 = 0 by decide]; omega) (by rw [show lowD 9 = 1 by decide, show topD 9 = 200 by decide]; omega) (Nat.zero_le _), Nat.zero_le _, fun n hn => by simp at hn⟩, Lib.hid ⟨Row.nil _ _ _ _ _, fun n c e => by cases e; rfl⟩⟩
          case rest =>
            obtain ⟨bq, t, d, al, av, HCC, HOKC, HAR⟩ := hcut
            obtain ⟨w8, rfl⟩ : ∃ w8 : World, w8 = wc := ⟨_, rfl⟩
            obtain ⟨ga, gc, rfl, _⟩ := HAR.out.1.shape
            obtain ⟨an, HAN⟩ : ∃ an, Hid (al.length = an) := ⟨_, Lib.hid rfl⟩
            rw [HAN.out] at HCC HAR
            have kq0 : w8.cell? ⟨KB, 0, none⟩ = some (.int .u8 k1) := cell_of_blk HCC.out.k rfl
            have kq1 : w8.cell? ⟨KB, 1, none⟩ = some (.int .i64 a3) := cell_of_blk HCC.out.k rfl
            have kq2 : w8.cell? ⟨KB, 2, none⟩ = some (.int .i64 bq) := cell_of_blk HCC.out.k rfl
            have kq3 : w8.cell? ⟨KB, 3, none⟩ = some (.int .i64 n4) := cell_of_blk HCC.out.k rfl
            have hbkq := cell_lt kq0
            have z0 : w8.cell? ⟨XB, 0, none⟩ = some (.int .u8 0) := cell_of_blk HCC.out.x rfl
            have f0 := thaw HCC.out.x 0
            have z1 : w8.cell? ⟨XB, 1, none⟩ = some (.int .i64 0) := cell_of_blk HCC.out.x rfl
            have f1 := thaw HCC.out.x 1
            have z2 : w8.cell? ⟨XB, 2, none⟩ = some (.int .i64 0) := cell_of_blk HCC.out.x rfl
            have f2 := thaw HCC.out.x 2
            have z3 : w8.cell? ⟨XB, 3, none⟩ = some (.int .i64 0) := cell_of_blk HCC.out.x rfl
            have f3 := thaw HCC.out.x 3
            have hbz := cell_lt z0
            go_upto_region 30 with (fail)
            have HC9 := Lib.hid (show ChB KB w5 ((((w8.setCell ⟨XB, 0, none⟩ (.int .u8 k1)).setCell ⟨XB, 1, none⟩ (.int .i64 a3)).setCell ⟨XB, 2, none⟩ (.int .i64 bq)).setCell ⟨XB, 3, none⟩ (.int .i64 n4)) CB KB XB #[.int .u8 kd, .int .i64 ka, .int .i64 kb, .int .i64 kn, .int .i64 ct, .int .i64 cd, .slice ca cn cc] #[.int .u8 k1, .int .i64 a3, .int .i64 bq, .int .i64 n4] #[.int .u8 k1, .int .i64 a3, .int .i64 bq, .int .i64 n4, .int .i64 t, .int .i64 d, .slice ga an gc] from (((HCC.out.setX 0 (.int .u8 k1)).setX 1 (.int .i64 a3)).setX 2 (.int .i64 bq)).setX 3 (.int .i64 n4))
            clear kq0 kq1 kq2 kq3 z0 z1 z2 z3 f0 f1 f2 f3 hbkq hbz
            have HZ9 := Lib.hid (show ∀ z, z ≠ XB → ((((w8.setCell ⟨XB, 0, none⟩ (.int .u8 k1)).setCell ⟨XB, 1, none⟩ (.int .i64 a3)).setCell ⟨XB, 2, none⟩ (.int .i64 bq)).setCell ⟨XB, 3, none⟩ (.int .i64 n4)).heap[z]? = w8.heap[z]? from fun z hz => (Below.heap_setCell _ _ _ _ hz).trans ((Below.heap_setCell _ _ _ _ hz).trans ((Below.heap_setCell _ _ _ _ hz).trans (Below.heap_setCell _ _ _ _ hz))))
            generalize (((w8.setCell ⟨XB, 0, none⟩ (.int .u8 k1)).setCell ⟨XB, 1, none⟩ (.int .i64 a3)).setCell ⟨XB, 2, none⟩ (.int .i64 bq)).setCell ⟨XB, 3, none⟩ (.int .i64 n4) = w9 at *
            have x0 : w9.cell? ⟨XB, 0, none⟩ = some (.int .u8 k1) := cell_of_blk HC9.out.x rfl
            have x1 : w9.cell? ⟨XB, 1, none⟩ = some (.int .i64 a3) := cell_of_blk HC9.out.x rfl
            have x2 : w9.cell? ⟨XB, 2, none⟩ = some (.int .i64 bq) := cell_of_blk HC9.out.x rfl
            have x3 : w9.cell? ⟨XB, 3, none⟩ = some (.int .i64 n4) := cell_of_blk HC9.out.x rfl
            have x4 : w9.cell? ⟨XB, 4, none⟩ = some (.int .i64 t) := cell_of_blk HC9.out.x rfl
            have x5 : w9.cell? ⟨XB, 5, none⟩ = some (.int .i64 d) := cell_of_blk HC9.out.x rfl
            have x6 : w9.cell? ⟨XB, 6, none⟩ = some (.slice ga an gc) := cell_of_blk HC9.out.x rfl
            have hbx := cell_lt x0
            have HM9 := Lib.hid (show More wo w9 from more_trans HM5.out (more_of (by rw [← HKB.out]; exact HC9.out.b)))
            have HOA := Lib.hid ((HO.out.more HM9.out).more (more_alloc w9 (.cells #[.int .u8 k1, .int .i64 a3, .int .i64 bq, .int .i64 n4, .int .i64 t, .int .i64 d, .slice ga an gc] 58)))
            have HS9 := Lib.hid (Nat.le_trans HNO.out HM9.out.size)
            have HL9 := Lib.hid (room72 (n := o.length + 1) (by have := HOL.out; omega))
            go_wp2_with (at_builtin; refine wpList_append_lies _ rfl _ _ 23 rfl N 58 i0 _ 7 72 Tryz.underlying23 hi0 hz0 hz1 hz2 rfl (by omega) (.slice oa o.length oc) o.length (flatC gC o) rfl HOA.out.own ⟨w9.heap.size, 0, none⟩ 1 1 [.int .u8 k1, .int .i64 a3, .int .i64 bq, .int .i64 n4, .int .i64 t, .int .i64 d, .slice ga an gc] rfl rfl (World.news_of_block (cs := #[.int .u8 k1, .int .i64 a3, .int .i64 bq, .int .i64 n4, .int .i64 t, .int .i64 d, .slice ga an gc]) (t := 58) (fr := (0, 0)) (alloc_last _ _)) (by simp [Value.oneCell']) (by omega) HL9.out.1 HL9.out.2 (by rw [World.size_alloc]; exact Nat.le_succ_of_le HS9.out) (w9.heap.size + 1) (by simp) ?_; intro gg cap8 w10 hown8 hgrow8 hat8 _)
            clear x0 x1 x2 x3 x4 x5 x6 hbx
            have HGP := Lib.hid (show GArg (fun b => (Value.slice oa o.length oc).ownBlock ≠ some b) (w9.alloc (.cells #[.int .u8 k1, .int .i64 a3, .int .i64 bq, .int .i64 n4, .int .i64 t, .int .i64 d, .slice ga an gc] 58)) (.slice ga an gc, ⟨⟨k1, a3, bq, n4⟩, t, d, al⟩) from by
              have h1 : GArg (fun z => KB ≤ z ∧ z ≠ XB) w8 (.slice ga an gc, ⟨⟨k1, a3, bq, n4⟩, t, d, al⟩) := ⟨by show Row _ _ 1 al.length _ _; rw [HAN.out]; exact HAR.out.1, HAR.out.2⟩
              have h2 : GArg (fun b => (Value.slice oa o.length oc).ownBlock ≠ some b) w9 (.slice ga an gc, ⟨⟨k1, a3, bq, n4⟩, t, d, al⟩) := h1.mono (fun b hb _ e => by have h3 := (HO.out.own.lt b e).2; have h4 := HKB.out; have h5 := HM5.out.size; omega) (fun b hb _ => HZ9.out b hb.2)
              exact h2.more (more_alloc _ _))
            have HP10 := Lib.hid (HOA.out.push HGP.out hown8 hgrow8 (fun z hz => by
              have hz' : gg = z := by simpa [Value.ownBlock] using hz
              subst hz'
              rcases hat8 with h | h
              · exact Or.inl h
              · right; rw [h]; simp))
            have HB10 := Lib.hid (show Below N w w10 from ((HB.out.trans (HM9.out.below.mono HNO.out)).alloc HS9.out _).grown hgrow8 (by rw [World.size_alloc]; exact Nat.le_succ_of_le HS9.out) (fun z hz => (HO.out.own.lt z hz).1))
            have HOK10 := Lib.hid (show ∀ p ∈ o ++ [((.slice ga an gc, ⟨⟨k1, a3, bq, n4⟩, t, d, al⟩) : GV)], CgOk p.2 ∧ p.2.l.length ≤ 2 ∧ (∀ n ∈ p.2.l, I64G n) ∧ ∃ a c, p.1 = .slice a p.2.l.length c from fun p hp => by
              rcases List.mem_append.1 hp with h | h
              · exact HOK.out p h
              · rw [List.mem_singleton] at h; subst h; exact ⟨HOKC.out.1, HOKC.out.2.1, HOKC.out.2.2, ga, gc, by show Value.slice ga an gc = .slice ga al.length gc; rw [HAN.out]⟩)
            have HOL10 := Lib.hid (show (o ++ [((.slice ga an gc, ⟨⟨k1, a3, bq, n4⟩, t, d, al⟩) : GV)]).length = j + 1 by rw [List.length_append, List.length_singleton, HOL.out])
            clear hown8 hgrow8 hat8
            have hlt9 := HLT.out
            go_wp2_with fail
            go_roundw
            case rel => exact ⟨j + 1, o ++ [(.slice ga an gc, ⟨⟨k1, a3, bq, n4⟩, t, d, al⟩)], by omega, by omega, by go_num, HP10, HB10, HOK10, HOL10⟩
            case measure => have := HLT.out; simp [intOf]; omega
      · obtain rfl : j = 8 := by omega
        have HSO := Lib.hid (sort144_any o (.slice oa o.length oc) wo (by have := HOL.out; omega) ((Row.of_owns HO.out.own).mono (S' := anyB) (fun _ _ => trivial) (fun _ _ _ _ h => h)) (fun p hp => (HOK.out p hp).2.2.2))
        go_wp2_with fail
        refine HSO.out.mono ?_
        rintro e w8 ⟨⟨v', l', rfl, hown, hasc, hmem, hlen⟩, hb⟩
        have HOW := Lib.hid hown; clear hown
        have HPP := Lib.hid (And.intro hasc (And.intro hmem hlen)); clear hasc hmem hlen
        have HBB := Lib.hid hb; clear hb
        go_wp2_with fail
        go_ret
        exact ⟨⟨_, l', rfl, (Row.of_owns HOW.out).mono (fun _ _ => trivial) (fun _ _ _ _ h => h), HPP.out.1, fun p hp => ⟨(HOK.out p (HPP.out.2.1 p hp)).1, (HOK.out p (HPP.out.2.1 p hp)).2.1, (HOK.out p (HPP.out.2.1 p hp)).2.2.1, ((HO.out.ent p (HPP.out.2.1 p hp)).mono (S' := anyB) (fun _ _ _ => trivial) (fun _ _ _ => rfl)).more (more_of HBB.out)⟩, by have h1 := HPP.out.2.2; have h2 := HOL.out; omega⟩, HB.out.trans (HBB.out.mono HNO.out)⟩
    · obtain rfl : j = l.length := by omega
      have HSO := Lib.hid (sort144_any o (.slice oa o.length oc) wo (by have := HOL.out; omega) ((Row.of_owns HO.out.own).mono (S' := anyB) (fun _ _ => trivial) (fun _ _ _ _ h => h)) (fun p hp => (HOK.out p hp).2.2.2))
      go_wp2_with fail
      refine HSO.out.mono ?_
      rintro e w8 ⟨⟨v', l', rfl, hown, hasc, hmem, hlen⟩, hb⟩
      have HOW := Lib.hid hown; clear hown
      have HPP := Lib.hid (And.intro hasc (And.intro hmem hlen)); clear hasc hmem hlen
      have HBB := Lib.hid hb; clear hb
      go_wp2_with fail
      go_ret
      exact ⟨⟨_, l', rfl, (Row.of_owns HOW.out).mono (fun _ _ => trivial) (fun _ _ _ _ h => h), HPP.out.1, fun p hp => ⟨(HOK.out p (HPP.out.2.1 p hp)).1, (HOK.out p (HPP.out.2.1 p hp)).2.1, (HOK.out p (HPP.out.2.1 p hp)).2.2.1, ((HO.out.ent p (HPP.out.2.1 p hp)).mono (S' := anyB) (fun _ _ _ => trivial) (fun _ _ _ => rfl)).more (more_of HBB.out)⟩, by have h1 := HPP.out.2.2; have h2 := HOL.out; omega⟩, HB.out.trans (HBB.out.mono HNO.out)⟩
end Go.Proofs.YtemeppfikpafbaaGreatDoor

