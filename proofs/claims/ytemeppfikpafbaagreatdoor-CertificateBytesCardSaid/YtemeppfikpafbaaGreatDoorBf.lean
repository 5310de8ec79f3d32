/- Texts NetG, CkhG, laid together. -/
import Derived.Deep.CutBlock
import Derived.Deep.QuietTactic
import Derived.BigQuiet
import Derived.Test.YtemeppfikpafbaaGreatDoorBe
/- cloneArrival (197), network.New (146) on holds of different messages. -/
namespace Go.Proofs.YtemeppfikpafbaaGreatDoor
open Go.RowKit
set_option maxRecDepth 100000 in
set_option maxHeartbeats 4000000 in
theorem clone197_gen (tk hd : Int) (l : List Int) (sa : Option Addr) (sc : Nat) (w : World) (hrow : Row anyB w 1 l.length (.slice sa l.length sc) (flatC nC l)) (hnil : NilA (.slice sa l.length sc)) (hl2 : l.length ≤ 1000000) : Calls Tryz.prog 101 #[.agg #[.int .i64 tk, .int .i64 hd, .slice sa l.length sc]] w fun e w' => (∃ a c, e = .returned (.agg #[.int .i64 tk, .int .i64 hd, .slice a l.length c])) ∧ Below w.heap.size w w' := by
  obtain ⟨i1, hi1, hy0, hy1, hy2⟩ := info_parts infoN
  obtain ⟨ln, HLN⟩ : ∃ ln, Hid (l.length = ln) := ⟨_, Lib.hid rfl⟩
  rw [HLN.out] at hrow hnil hl2 ⊢
  have hm := (boxed2 w (.cells #[.int .i64 tk, .int .i64 hd, .slice sa ln sc] 72) (.cells #[.int .i64 0, .int .i64 0, .slice none 0 0] 72))
  have HP := Lib.hid hm.1
  have HQ := Lib.hid hm.2.1
  have HM := Lib.hid hm.2.2.1
  have HR := Lib.hid (hrow.below HM.out.below)
  have HN := Lib.hid hnil
  have HL2 := Lib.hid hl2
  clear hm hrow hnil hl2
  go_enter Tryz.func101, Tryz.ntmps101
  go_upto_region 1 with (fail)
  generalize (w.alloc (.cells #[.int .i64 tk, .int .i64 hd, .slice sa ln sc] 72)).alloc (.cells #[.int .i64 0, .int .i64 0, .slice none 0 0] 72) = w1 at *
  obtain ⟨PB, HPB⟩ : ∃ PB, Hid (PB = w.heap.size) := ⟨_, Lib.hid rfl⟩
  rw [← HPB.out] at HP HQ ⊢
  obtain ⟨QB, HQB⟩ : ∃ QB, Hid (QB = PB + 1) := ⟨_, Lib.hid rfl⟩
  rw [← HQB.out] at HQ ⊢
  have c2 : w1.cell? ⟨PB, 2, none⟩ = some (.slice sa ln sc) := cell_of_blk HP.out rfl
  have hlt := cell_lt c2
  have hn : ln ≤ 1000000 := HL2.out
  go_upto_region 2 with (at_builtin; refine wpList_append_rowC rfl _ _ 56 rfl w1.heap.size 2 i1 _ 1 8 Tryz.underlying56 hi1 hy0 hy1 hy2 rfl (by omega) (.slice none 0 0) 0 [] rfl (World.ownsRow_nil _ _ _ _) (.slice sa ln sc) ln (flatC nC l) rfl HR.out HN.out (nC_one _) (by unfold maxLen; omega) (by omega) (Nat.le_refl _) ?_; intro v2 w2 hown hgrow; rw [Nat.zero_add] at hown; obtain ⟨ga, gc, rfl, _⟩ := owns_shape hown; have HM2 := Lib.hid (show More w1 w2 from hgrow); have HP2 := Lib.hid ((HM2.out.block (blk_lt HP.out)).trans HP.out); have z2 : w2.cell? ⟨PB, 2, none⟩ = some (.slice sa ln sc) := cell_of_blk HP2.out rfl; have f2 := thaw HP2.out 2; have hbz := cell_lt z2)
  have HQ2 := Lib.hid ((HM2.out.block (blk_lt HQ.out)).trans HQ.out)
  have HP3 := Lib.hid (show (w2.setCell ⟨PB, 2, none⟩ (.slice ga ln gc)).heap[PB]? = some (.cells #[.int .i64 tk, .int .i64 hd, .slice ga ln gc] 72) from setCell_heap HP2.out)
  have HQ3 := Lib.hid (show (w2.setCell ⟨PB, 2, none⟩ (.slice ga ln gc)).heap[QB]? = _ from (Below.heap_setCell _ _ _ _ (show QB ≠ PB by have := HQB.out; omega)).trans HQ2.out)
  have HB3 := Lib.hid (show Below PB w (w2.setCell ⟨PB, 2, none⟩ (.slice ga ln gc)) from by
    have h1 := (more_trans HM.out HM2.out).below
    rw [← HPB.out] at h1
    exact h1.setCell (p := ⟨PB, 2, none⟩) (Nat.le_refl _) _)
  clear hown hgrow z2 f2 hbz c2 hlt
  generalize w2.setCell ⟨PB, 2, none⟩ (.slice ga ln gc) = w3 at *
  have k0 : w3.cell? ⟨PB, 0, none⟩ = some (.int .i64 tk) := cell_of_blk HP3.out rfl
  have k1 : w3.cell? ⟨PB, 1, none⟩ = some (.int .i64 hd) := cell_of_blk HP3.out rfl
  have k2 : w3.cell? ⟨PB, 2, none⟩ = some (.slice ga ln gc) := cell_of_blk HP3.out rfl
  have z0 : w3.cell? ⟨QB, 0, none⟩ = some (.int .i64 0) := cell_of_blk HQ3.out rfl
  have z1 : w3.cell? ⟨QB, 1, none⟩ = some (.int .i64 0) := cell_of_blk HQ3.out rfl
  have z2 : w3.cell? ⟨QB, 2, none⟩ = some (.slice none 0 0) := cell_of_blk HQ3.out rfl
  have f0 := thaw HQ3.out 0
  have f1 := thaw HQ3.out 1
  have f2 := thaw HQ3.out 2
  have hbk := cell_lt k0
  have hbz := cell_lt z0
  go_wp2_with fail
  have h0 := setCell_heap (o := 0) (v := .int .i64 tk) HQ3.out
  have h1 := setCell_heap (o := 1) (v := .int .i64 hd) h0
  have h2 := setCell_heap (o := 2) (v := .slice ga ln gc) h1
  have HBF := Lib.hid (((HB3.out.setCell (p := ⟨QB, 0, none⟩) (show PB ≤ QB by have := HQB.out; omega) (.int .i64 tk)).setCell (p := ⟨QB, 1, none⟩) (show PB ≤ QB by have := HQB.out; omega) (.int .i64 hd)).setCell (p := ⟨QB, 2, none⟩) (show PB ≤ QB by have := HQB.out; omega) (.slice ga ln gc))
  clear z0 z1 z2 f0 f1 f2 hbk hbz k0 k1 k2 h0 h1
  generalize ((w3.setCell ⟨QB, 0, none⟩ (.int .i64 tk)).setCell ⟨QB, 1, none⟩ (.int .i64 hd)).setCell ⟨QB, 2, none⟩ (.slice ga ln gc) = w4 at *
  have c0 : w4.cell? ⟨QB, 0, none⟩ = some (.int .i64 tk) := cell_of_blk h2 rfl
  have c1 : w4.cell? ⟨QB, 1, none⟩ = some (.int .i64 hd) := cell_of_blk h2 rfl
  have c2 : w4.cell? ⟨QB, 2, none⟩ = some (.slice ga ln gc) := cell_of_blk h2 rfl
  refine bodyPost_ret (v := .agg #[.int .i64 tk, .int .i64 hd, .slice ga ln gc]) (by simp [results, Tryz.results101, go_sem, c0, c1, c2]) rfl ⟨⟨ga, gc, rfl⟩, ?_⟩
  rw [← HPB.out]
  exact HBF.out
theorem run_makeMap133n (w : World) : (Instr.makeMap 158 none).run Tryz.prog w = .ok (.map (some w.heap.size)) (w.alloc (.map #[] 0)) := by
  simp [Instr.makeMap]
theorem arOkb_len : ∀ {l : List AV} {last : Int}, arOkb last l = true → ∀ q ∈ l, q.2.l.length ≤ 4
  | [], _, _, q, hq => by simp at hq
  | a :: r, last, h, q, hq => by
    unfold arOkb at h
    split at h
    · cases h
    · rename_i hn
      rcases List.mem_cons.1 hq with rfl | h1
      · omega
      · exact arOkb_len h q h1
theorem room40 {n : Nat} (h : n ≤ 1003) : n ≤ maxLen ∧ n * 40 ≤ 140737488355328 := by unfold maxLen; omega
theorem room48 {n : Nat} (h : n ≤ 1003) : n ≤ maxLen ∧ n * 48 ≤ 140737488355328 := by unfold maxLen; omega
theorem infoH : (Tryz.prog.info? 68).map (fun i => (i.zero, i.size, i.bytes)) = some (some (.agg #[.int .i64 0, .int .i64 0, .int .i64 0, .slice none 0 0]), 4, 48) := by kernel_rfl
theorem infoA : (Tryz.prog.info? 72).map (fun i => (i.zero, i.size, i.bytes)) = some (some (.agg #[.int .i64 0, .int .i64 0, .slice none 0 0]), 3, 40) := by kernel_rfl
set_option maxRecDepth 100000 in
set_option maxHeartbeats 4000000 in
theorem new146_any (l : List HV) (v : Value) (w : World) (hl : l.length ≤ 16) (hr : Row anyB w 4 l.length v (flatC hC l)) (hh : ∀ p ∈ l, HAt anyB w p) (hd : l.Pairwise fun x y => x.2.m ≠ y.2.m) :
    Calls Tryz.prog 82 #[.agg #[.slice none 0 0], v] w fun e w' => (∃ q : Option Addr, e = .returned (.tuple #[.pointer q, .int .i64 (if l.all (fun p => hoOkb p.2) then 0 else 1)])) ∧ Below w.heap.size w w' := by
  obtain ⟨a, cap, rfl, _⟩ := hr.shape
  have HR := Lib.hid hr; clear hr
  have HH := Lib.hid hh; clear hh
  have HD := Lib.hid hd; clear hd
  obtain ⟨E, HE⟩ : ∃ E : Int, Hid (E = if l.all (fun p => hoOkb p.2) then 0 else 1) := ⟨_, Lib.hid rfl⟩
  rw [← HE.out]
  obtain ⟨i0, hi0, hz0, hz1, hz2⟩ := info_parts infoH
  obtain ⟨i1, hi1, hy0, hy1, hy2⟩ := info_parts infoA
  obtain ⟨N, HN⟩ : ∃ N, Hid (N = w.heap.size) := ⟨_, Lib.hid rfl⟩
  rw [← HN.out]
  have hl16 : ¬ (16 : Int) < l.length := by omega
  have hd16 : decide ((16 : Int) < l.length) = false := decide_eq_false hl16
  have HB1 := Lib.hid (alloc_last w (.cells #[.slice none 0 0] 33))
  have HM1 := Lib.hid (more_alloc w (.cells #[.slice none 0 0] 33))
  go_enter Tryz.func82, Tryz.ntmps82
  go_upto_region 3 with (fail)
  generalize w.alloc (.cells #[.slice none 0 0] 33) = w1 at *
  rw [← HN.out] at HB1 ⊢
  have c0 : w1.cell? ⟨N, 0, none⟩ = some (.slice none 0 0) := cell_of_blk HB1.out rfl
  have hbc := cell_lt c0
  have hmm := fun W => run_makeMap133n W
  go_upto_region 4 with (fail)
  obtain ⟨h1, h2, h3⟩ := boxed2 w1 (.map #[] 0) (.cells ((Tryz.zeroCells162.setIfInBounds 0 (.slice none 0 0)).setIfInBounds 82 (.map (some w1.heap.size))) 162)
  have har : ((Tryz.zeroCells162.setIfInBounds 0 (Value.slice none 0 0)).setIfInBounds 82 (Value.map (some w1.heap.size)))[1]? = some (.slice none 0 0) := by
    rw [Array.getElem?_setIfInBounds_ne (by decide), Array.getElem?_setIfInBounds_ne (by decide)]; rfl
  generalize (Tryz.zeroCells162.setIfInBounds 0 (Value.slice none 0 0)).setIfInBounds 82 (Value.map (some w1.heap.size)) = ar0 at *
  generalize (w1.alloc (.map #[] 0)).alloc (.cells ar0 162) = w2 at *
  have HM2 := Lib.hid (more_trans HM1.out h3.1)
  have HNB := Lib.hid (And.intro h2 har)
  clear h1 h2 h3 har c0 hbc
  obtain ⟨NB, HNE⟩ : ∃ NB, Hid (NB = w1.heap.size + 1) := ⟨_, Lib.hid rfl⟩
  rw [← HNE.out] at HNB ⊢
  obtain ⟨M, HMM⟩ : ∃ M, Hid (M = w2.heap.size) := ⟨_, Lib.hid rfl⟩
  have HNM := Lib.hid (show NB < M by rw [HMM.out]; exact blk_lt HNB.out.1)
  go_wp2_with fail
  go_loopw [21] (fun i wr => ∃ (j : Nat) (o : List HV) (hv : Value) (ar : Array Value), j ≤ l.length ∧ i = .int .i64 j ∧ Hid (wr.heap[NB]? = some (.cells ar 162) ∧ ar[1]? = some hv) ∧ Hid (wr.ownsRow M 68 4 hv o.length (flatC hC o)) ∧ Hid (∀ x ∈ o, ∃ a n c, x.1 = .slice a n c) ∧ Hid (o.map (·.2.m) = (l.take j).map (·.2.m)) ∧ Hid (Below N w wr) ∧ Hid (M ≤ wr.heap.size) ∧ Hid ((l.take j).all (fun p => hoOkb p.2) = true)) (fun i _ => l.length - (intOf i).toNat)
  case atStart => exact ⟨0, [], .slice none 0 0, ar0, Nat.zero_le _, rfl, HNB, Lib.hid (World.ownsRow_nil _ _ _ _), Lib.hid (fun x h => by simp at h), Lib.hid (by simp), Lib.hid (by rw [HN.out]; exact HM2.out.below), Lib.hid (by rw [HMM.out]; exact Nat.le_refl _), Lib.hid (by simp)⟩
  case round =>
    obtain ⟨j, o, hv, ar, hj, rfl, HA, HO, HOS, HOM, HB, HMS, HALL⟩ := hrel
    obtain ⟨wo, rfl⟩ : ∃ wo : World, wo = wr := ⟨_, rfl⟩
    have HMW := Lib.hid (show More w wo from by have := HB.out; rw [HN.out] at this; exact more_of this)
    obtain ⟨oa, oc, rfl, _⟩ := owns_shape HO.out
    by_cases hlt : j < l.length
    · obtain ⟨b, off, rfl, _, hc⟩ := HR.out.atC hC_len hlt
      have g0 := HMW.out.cell (hc 0 (.int .i64 l[j].2.m.f) rfl)
      have g1 := HMW.out.cell (hc 1 (.int .i64 l[j].2.m.t) rfl)
      have g2 := HMW.out.cell (hc 2 (.int .i64 l[j].2.m.n) rfl)
      have g3 := HMW.out.cell (hc 3 l[j].1 rfl)
      rw [Nat.add_zero] at g0
      clear hc
      have HHX := Lib.hid ((HH.out _ (List.getElem_mem hlt)).more HMW.out)
      obtain ⟨xa, xc, hxv, _⟩ := HHX.out.row.shape
      rw [hxv] at g3
      have HGX := Lib.hid (show hA l[j] = .agg #[.int .i64 l[j].2.m.f, .int .i64 l[j].2.m.t, .int .i64 l[j].2.m.n, .slice xa l[j].2.al.length xc] by unfold hA; rw [hxv])
      have HXV := Lib.hid hxv
      clear hxv
      have HT := Lib.hid (show l.take (j + 1) = l.take j ++ [l[j]] from List.take_succ_eq_append_getElem hlt)
      have HOK := Lib.hid (show hoOkb l[j].2 = false → E = 1 from fun h => by
        rw [HE.out, if_neg]
        rw [Bool.not_eq_true, List.all_eq_false]
        exact ⟨_, List.getElem_mem hlt, by simp [h]⟩)
      have HNEW := Lib.hid (show (o.any fun x => decide (x.2.m = l[j].2.m)) = false from by
        rw [List.any_eq_false]
        intro x hx
        rw [decide_eq_true_iff]
        intro e
        have h1 : x.2.m ∈ (l.take j).map (·.2.m) := by rw [← HOM.out]; exact List.mem_map.2 ⟨x, hx, rfl⟩
        obtain ⟨y, hy, hye⟩ := List.mem_map.1 h1
        obtain ⟨i, hi, rfl⟩ := List.getElem_of_mem hy
        rw [List.length_take] at hi
        rw [List.getElem_take] at hye
        exact List.pairwise_iff_getElem.1 HD.out i j (by omega) hlt (by omega) (by rw [hye, e]))
      have HLT := Lib.hid hlt
      generalize l[j] = x at *
      have hbg := cell_lt g0
      have HXB := Lib.hid (alloc_last wo (.cells #[.int .i64 x.2.m.f, .int .i64 x.2.m.t, .int .i64 x.2.m.n, .slice xa x.2.al.length xc] 68))
      have HMO := Lib.hid (more_alloc wo (.cells #[.int .i64 x.2.m.f, .int .i64 x.2.m.t, .int .i64 x.2.m.n, .slice xa x.2.al.length xc] 68))
      go_upto_region 7 with (fail)
      clear g0 g1 g2 g3 hbg
      generalize wo.alloc (.cells #[.int .i64 x.2.m.f, .int .i64 x.2.m.t, .int .i64 x.2.m.n, .slice xa x.2.al.length xc] 68) = w5 at *
      obtain ⟨XB, HXE⟩ : ∃ XB, Hid (XB = wo.heap.size) := ⟨_, Lib.hid rfl⟩
      rw [← HXE.out] at HXB ⊢
      have HVA := Lib.hid (show Calls Tryz.prog 99 #[.agg #[.int .i64 x.2.m.f, .int .i64 x.2.m.t, .int .i64 x.2.m.n, .slice xa x.2.al.length xc]] w5 fun e w' => e = .returned (.bool (hoOkb x.2)) ∧ Below w5.heap.size w5 w' from by
        have h1 := valid195_any x w5 (HHX.out.more HMO.out)
        rw [HGX.out] at h1
        exact h1)
      have x0 : w5.cell? ⟨XB, 0, none⟩ = some (.int .i64 x.2.m.f) := cell_of_blk HXB.out rfl
      have x1 : w5.cell? ⟨XB, 1, none⟩ = some (.int .i64 x.2.m.t) := cell_of_blk HXB.out rfl
      have x2 : w5.cell? ⟨XB, 2, none⟩ = some (.int .i64 x.2.m.n) := cell_of_blk HXB.out rfl
      have x3 : w5.cell? ⟨XB, 3, none⟩ = some (.slice xa x.2.al.length xc) := cell_of_blk HXB.out rfl
      have hbx := cell_lt x0
      go_wp2_with fail
      refine HVA.out.mono ?_
      rintro e w6 ⟨rfl, hb6⟩
      have HM6 := Lib.hid (more_trans HMO.out (more_of hb6))
      have HXB6 := Lib.hid (((more_of hb6).block (blk_lt HXB.out)).trans HXB.out)
      have HB6 := Lib.hid (show Below N w w6 by rw [HN.out]; exact (more_trans HMW.out HM6.out).below)
      clear hb6 x0 x1 x2 x3 hbx HVA
      obtain ⟨q, HQ⟩ : ∃ q, Hid (hoOkb x.2 = q) := ⟨_, Lib.hid rfl⟩
      rw [HQ.out] at HOK ⊢
      cases q with
      | false =>
        go_wp2_with fail
        go_ret2
        exact ⟨⟨none, by rw [show E = 1 from (by first | exact HOK.out rfl | exact HOK.out trivial)]; rfl⟩, HB6.out⟩
      | true =>
        have x0 : w6.cell? ⟨XB, 0, none⟩ = some (.int .i64 x.2.m.f) := cell_of_blk HXB6.out rfl
        have x1 : w6.cell? ⟨XB, 1, none⟩ = some (.int .i64 x.2.m.t) := cell_of_blk HXB6.out rfl
        have x2 : w6.cell? ⟨XB, 2, none⟩ = some (.int .i64 x.2.m.n) := cell_of_blk HXB6.out rfl
        have hbx := cell_lt x0
        have HA6 := Lib.hid ((HM6.out.block (blk_lt HA.out.1)).trans HA.out.1)
        have HO6 := Lib.hid (owns_keep HO.out (fun z hz => HM6.out.block (HO.out.lt z hz).2))
        have HHE := Lib.hid (held196_any o x.2.m NB _ w6 (by have h1 := congrArg List.length HOM.out; simp only [List.length_map, List.length_take] at h1; omega) HOS.out (cell_of_blk HA6.out HA.out.2) ((Row.of_owns HO6.out).mono (S' := anyB) (fun _ _ => trivial) (fun _ _ _ _ h => h)))
        rw [HNEW.out] at HHE
        go_wp2_with fail
        refine HHE.out.mono ?_
        rintro e w7 ⟨rfl, hm7⟩
        have HM7 := Lib.hid (more_trans HM6.out hm7)
        have HXB7 := Lib.hid ((hm7.block (blk_lt HXB6.out)).trans HXB6.out)
        clear hm7 x0 x1 x2 hbx HHE
        have x0 : w7.cell? ⟨XB, 0, none⟩ = some (.int .i64 x.2.m.f) := cell_of_blk HXB7.out rfl
        have x1 : w7.cell? ⟨XB, 1, none⟩ = some (.int .i64 x.2.m.t) := cell_of_blk HXB7.out rfl
        have x2 : w7.cell? ⟨XB, 2, none⟩ = some (.int .i64 x.2.m.n) := cell_of_blk HXB7.out rfl
        have hbx := cell_lt x0
        go_upto_region 12 with (fail)
        have HDB0 := Lib.hid (alloc_last w7 (.cells #[.int .i64 x.2.m.f, .int .i64 x.2.m.t, .int .i64 x.2.m.n, .slice none 0 0] 68))
        have HMD := Lib.hid (more_alloc w7 (.cells #[.int .i64 x.2.m.f, .int .i64 x.2.m.t, .int .i64 x.2.m.n, .slice none 0 0] 68))
        have HXB8 := Lib.hid ((HMD.out.block (blk_lt HXB7.out)).trans HXB7.out)
        generalize w7.alloc (.cells #[.int .i64 x.2.m.f, .int .i64 x.2.m.t, .int .i64 x.2.m.n, .slice none 0 0] 68) = w8 at *
        obtain ⟨DB, HDE⟩ : ∃ DB, Hid (DB = w7.heap.size) := ⟨_, Lib.hid rfl⟩
        rw [← HDE.out] at HDB0 ⊢
        clear x0 x1 x2 hbx
        have x3 : w8.cell? ⟨XB, 3, none⟩ = some (.slice xa x.2.al.length xc) := cell_of_blk HXB8.out rfl
        have hbx := cell_lt x3
        have hv2 : x.2.al.length ≤ 2 := by
          have h1 := HQ.out
          unfold hoOkb at h1
          simp only [Bool.and_eq_true, decide_eq_true_eq] at h1
          exact h1.2.1
        have HV2 := Lib.hid hv2; clear hv2
        obtain ⟨an, HAN⟩ : ∃ an, Hid (x.2.al.length = an) := ⟨_, Lib.hid rfl⟩
        rw [HAN.out] at x3 HV2 ⊢
        have han := HV2.out
        go_wp2_with fail
        clear x3 hbx
        go_loopw [38] (fun i wx => ∃ (m : Nat) (av : Value) (xs : List AV), m ≤ an ∧ i = .int .i64 m ∧ Hid (wx.heap[DB]? = some (.cells #[.int .i64 x.2.m.f, .int .i64 x.2.m.t, .int .i64 x.2.m.n, av] 68)) ∧ Hid (wx.ownsRow (DB + 1) 72 3 av xs.length (flatC aC xs)) ∧ Hid (xs.length = m) ∧ Hid (Below DB w7 wx)) (fun i _ => an - (intOf i).toNat)
        case atStart => exact ⟨0, .slice none 0 0, [], Nat.zero_le _, rfl, HDB0, Lib.hid (World.ownsRow_nil _ _ _ _), Lib.hid rfl, Lib.hid (by rw [HDE.out]; exact HMD.out.below)⟩
        case round =>
          obtain ⟨m, av, xs, hm, rfl, HDB, HVO, HVL, HBX⟩ := hrel
          obtain ⟨wx, rfl⟩ : ∃ wx : World, wx = wr := ⟨_, rfl⟩
          have HMX := Lib.hid (show More wo wx from more_trans HM7.out (more_of (by rw [← HDE.out]; exact HBX.out)))
          obtain ⟨va, vc, rfl, _⟩ := owns_shape HVO.out
          have han := HV2.out
          by_cases hmt : m < an
          · have hml : m < x.2.al.length := by rw [HAN.out]; exact hmt
            have hrw := HHX.out.row
            rw [HXV.out] at hrw
            obtain ⟨b2, off2, rfl, _, hc⟩ := hrw.atC aC_len hml
            have e0 := HMX.out.cell (hc 0 (.int .i64 x.2.al[m].2.tk) rfl)
            have e1 := HMX.out.cell (hc 1 (.int .i64 x.2.al[m].2.hd) rfl)
            have e2 := HMX.out.cell (hc 2 x.2.al[m].1 rfl)
            rw [Nat.add_zero] at e0
            clear hc hrw
            have hya := HHX.out.arg _ (List.getElem_mem hml)
            have hyl : x.2.al[m].2.l.length ≤ 4 := by
              have h1 := HQ.out
              unfold hoOkb at h1
              simp only [Bool.and_eq_true] at h1
              exact arOkb_len h1.2.2 _ (List.getElem_mem hml)
            generalize x.2.al[m] = y at *
            obtain ⟨ya, yc, hyv, _⟩ := hya.1.shape
            rw [hyv] at e2 hya
            have HYA := Lib.hid hya; clear hya
            have HYL := Lib.hid hyl; clear hyl
            clear hyv hml
            have HMT := Lib.hid hmt
            have hbe := cell_lt e0
            have HYB := Lib.hid (alloc_last wx (.cells #[.int .i64 y.2.tk, .int .i64 y.2.hd, .slice ya y.2.l.length yc] 72))
            have HMY := Lib.hid (more_alloc wx (.cells #[.int .i64 y.2.tk, .int .i64 y.2.hd, .slice ya y.2.l.length yc] 72))
            go_upto_region 15 with (fail)
            clear e0 e1 e2 hbe
            generalize wx.alloc (.cells #[.int .i64 y.2.tk, .int .i64 y.2.hd, .slice ya y.2.l.length yc] 72) = w9 at *
            obtain ⟨YB, HYE⟩ : ∃ YB, Hid (YB = wx.heap.size) := ⟨_, Lib.hid rfl⟩
            rw [← HYE.out] at HYB ⊢
            have HDB9 := Lib.hid ((HMY.out.block (blk_lt HDB.out)).trans HDB.out)
            have HV9 := Lib.hid (owns_keep HVO.out (fun z hz => HMY.out.block (HVO.out.lt z hz).2))
            have HC := Lib.hid (fun W (hW : More w9 W) => clone197_gen y.2.tk y.2.hd y.2.l ya yc W (HYA.out.1.below (more_trans HMX.out (more_trans HMY.out hW)).below) HYA.out.2 (by have := HYL.out; omega))
            have d3 : w9.cell? ⟨DB, 3, none⟩ = some (.slice va xs.length vc) := cell_of_blk HDB9.out rfl
            have y0 : w9.cell? ⟨YB, 0, none⟩ = some (.int .i64 y.2.tk) := cell_of_blk HYB.out rfl
            have y1 : w9.cell? ⟨YB, 1, none⟩ = some (.int .i64 y.2.hd) := cell_of_blk HYB.out rfl
            have y2 : w9.cell? ⟨YB, 2, none⟩ = some (.slice ya y.2.l.length yc) := cell_of_blk HYB.out rfl
            have hbd := cell_lt d3
            have hby := cell_lt y0
            have HLD := Lib.hid (more_drew w9)
            have HSD := Lib.hid (show DB + 1 ≤ w9.heap.size from blk_lt HDB9.out)
            generalize y.2.l.length = yn at *
            obtain ⟨xn, HXN⟩ : ∃ xn, Hid (xs.length = xn) := ⟨_, Lib.hid rfl⟩
            rw [HXN.out] at HV9 HDB9 d3
            have HR9 := Lib.hid (room40 (n := xn + 1) (by have h1 := HVL.out; have h2 := HXN.out; omega))
            go_region_law (first
              | (go_simp; go_at_call 101; refine (HC.out _ HLD.out).mono ?_; rintro e wA ⟨⟨za, zc, rfl⟩, hbA⟩; have HMA := Lib.hid (more_trans HLD.out (more_of hbA)); clear hbA; have dA : wA.cell? ⟨DB, 3, none⟩ = some (.slice va xn vc) := HMA.out.cell d3; have hbA := cell_lt dA; have HVA := Lib.hid (owns_keep HV9.out (fun z hz => HMA.out.block (HV9.out.lt z hz).2)); have HDA := Lib.hid ((HMA.out.block (blk_lt HDB9.out)).trans HDB9.out))
              | (refine step_append_lies _ (by rfl) _ _ _ (by rfl) (DB + 1) 72 i1 _ 3 40 Tryz.underlying66 hi1 hy0 hy1 hy2 (by rfl) (by omega) (.slice va xn vc) xn (flatC aC xs) (by rfl) (owns_keep HVA.out (fun z hz => Below.heap_alloc wA _ _ (HVA.out.lt z hz).2)) ⟨wA.heap.size, 0, none⟩ 1 1 [.int .i64 y.2.tk, .int .i64 y.2.hd, .slice za yn zc] (by rfl) (by rfl) (World.news_of_block (cs := #[.int .i64 y.2.tk, .int .i64 y.2.hd, .slice za yn zc]) (t := 72) (fr := (0, 0)) (alloc_last _ _)) (by simp [Value.oneCell']) (by omega) HR9.out.1 HR9.out.2 (by rw [World.size_alloc]; exact Nat.le_succ_of_le (Nat.le_trans HSD.out HMA.out.size)) (wA.heap.size + 1) (by simp) ?_; intro gg cap8 wB hownB hgrowB hatB _; have HDBB := Lib.hid ((hgrowB.block DB (by rw [World.size_alloc]; exact Nat.lt_succ_of_lt (blk_lt HDA.out)) (fun e => by have := (HV9.out.lt DB e.symm).1; omega)).trans ((Below.heap_alloc wA _ _ (blk_lt HDA.out)).trans HDA.out)); have dB : wB.cell? ⟨DB, 3, none⟩ = some (.slice va xn vc) := cell_of_blk HDBB.out rfl; have fB := thaw HDBB.out 3; have hbB := cell_lt dB))
            all_goals
              have HDF := Lib.hid (show (wB.setCell ⟨DB, 3, none⟩ (.slice (some ⟨gg, 0, none⟩) (xn + 1) cap8)).heap[DB]? = some (.cells #[.int .i64 x.2.m.f, .int .i64 x.2.m.t, .int .i64 x.2.m.n, .slice (some ⟨gg, 0, none⟩) (xn + 1) cap8] 68) from setCell_heap HDBB.out)
              have HOF := Lib.hid (show (wB.setCell ⟨DB, 3, none⟩ (.slice (some ⟨gg, 0, none⟩) (xn + 1) cap8)).ownsRow (DB + 1) 72 3 (.slice (some ⟨gg, 0, none⟩) (xn + 1) cap8) (xs ++ [((.slice za yn zc, y.2) : AV)]).length (flatC aC (xs ++ [((.slice za yn zc, y.2) : AV)])) from by
                rw [List.length_append, List.length_singleton, HXN.out, flatC_push]
                exact owns_keep hownB (fun z hz => Below.heap_setCell _ _ _ _ (show z ≠ DB from by have := (hownB.lt z hz).1; omega)))
              have HXF := Lib.hid (show (xs ++ [((.slice za yn zc, y.2) : AV)]).length = m + 1 by rw [List.length_append, List.length_singleton, HVL.out])
              have HBF := Lib.hid (show Below DB w7 (wB.setCell ⟨DB, 3, none⟩ (.slice (some ⟨gg, 0, none⟩) (xn + 1) cap8)) from by
                have h1 : Below DB w7 wA := HBX.out.trans ((more_trans HMY.out HMA.out).below.mono (by have := blk_lt HDB.out; omega))
                have h2 : DB ≤ wA.heap.size := by have := blk_lt HDA.out; omega
                exact ((h1.alloc h2 _).grown hgrowB (by rw [World.size_alloc]; omega) (fun z hz => by have := (HV9.out.lt z hz).1; omega)).setCell (p := ⟨DB, 3, none⟩) (Nat.le_refl _) _)
              clear hownB hgrowB hatB dB fB hbB d3 y0 y1 y2 hbd hby dA hbA
              have hmt9 := HMT.out
              go_wp2_with fail
              go_roundw
              case rel => exact ⟨m + 1, _, xs ++ [(.slice za yn zc, y.2)], by omega, by go_num, HDF, HOF, HXF, HBF⟩
              case measure => have := HMT.out; simp [intOf]; omega
          · obtain rfl : m = an := by omega
            clear hmt hm
            have HAX := Lib.hid ((HMX.out.block (blk_lt HA.out.1)).trans HA.out.1)
            have HOX := Lib.hid (owns_keep HO.out (fun z hz => HMX.out.block (HO.out.lt z hz).2))
            obtain ⟨on, HON⟩ : ∃ on, Hid (o.length = on) := ⟨_, Lib.hid rfl⟩
            obtain ⟨xn, HXN⟩ : ∃ xn, Hid (xs.length = xn) := ⟨_, Lib.hid rfl⟩
            have hA2 := HA.out.2
            rw [HON.out] at HOX hA2
            rw [HXN.out] at HDB
            have HA2 := Lib.hid hA2; clear hA2
            have HMS5 := Lib.hid (Nat.le_trans HMS.out HMX.out.size)
            have n0 : wx.cell? ⟨NB, 1, none⟩ = some (.slice oa on oc) := cell_of_blk HAX.out HA2.out
            have k0 : wx.cell? ⟨DB, 0, none⟩ = some (.int .i64 x.2.m.f) := cell_of_blk HDB.out rfl
            have k1 : wx.cell? ⟨DB, 1, none⟩ = some (.int .i64 x.2.m.t) := cell_of_blk HDB.out rfl
            have k2 : wx.cell? ⟨DB, 2, none⟩ = some (.int .i64 x.2.m.n) := cell_of_blk HDB.out rfl
            have k3 : wx.cell? ⟨DB, 3, none⟩ = some (.slice va xn vc) := cell_of_blk HDB.out rfl
            have hbn := cell_lt n0
            have hbk := cell_lt k0
            have HMZ := Lib.hid (show More wx ((wx.alloc (.cells #[.int .i64 x.2.m.f, .int .i64 x.2.m.t, .int .i64 x.2.m.n, .slice va xn vc] 68)).drew) from more_trans (more_alloc _ _) (more_drew _))
            have nA : ((wx.alloc (.cells #[.int .i64 x.2.m.f, .int .i64 x.2.m.t, .int .i64 x.2.m.n, .slice va xn vc] 68)).drew).cell? ⟨NB, 1, none⟩ = some (.slice oa on oc) := HMZ.out.cell n0
            have HOZ := Lib.hid (show ((wx.alloc (.cells #[.int .i64 x.2.m.f, .int .i64 x.2.m.t, .int .i64 x.2.m.n, .slice va xn vc] 68)).drew).ownsRow M 68 4 (.slice oa on oc) on (flatC hC o) from owns_keep HOX.out (fun z hz => HMZ.out.block (HOX.out.lt z hz).2))
            have HAZ := Lib.hid ((HMZ.out.block (blk_lt HAX.out)).trans HAX.out)
            have HSZ := Lib.hid (Nat.le_trans HMS5.out HMZ.out.size)
            have HR9 := Lib.hid (room48 (n := on + 1) (by have h1 := congrArg List.length HOM.out; simp only [List.length_map, List.length_take] at h1; have h2 := HON.out; omega))
            go_upto_region 17 with (fail)
            go_region_law (first
              | (refine step_append_lies _ (by rfl) _ _ _ (by rfl) M 68 i0 _ 4 48 Tryz.underlying25 hi0 hz0 hz1 hz2 (by rfl) (by omega) (.slice oa on oc) on (flatC hC o) (by rfl) HOZ.out ⟨wx.heap.size, 0, none⟩ 1 1 [.int .i64 x.2.m.f, .int .i64 x.2.m.t, .int .i64 x.2.m.n, .slice va xn vc] (by rfl) (by rfl) (World.news_of_block (cs := #[.int .i64 x.2.m.f, .int .i64 x.2.m.t, .int .i64 x.2.m.n, .slice va xn vc]) (t := 68) (fr := (0, 0)) (alloc_last _ _)) (by simp [Value.oneCell']) (by omega) HR9.out.1 HR9.out.2 HSZ.out (wx.heap.size + 1) (by simp) ?_; intro gg cap8 wB hownB hgrowB hatB _; have HNBB := Lib.hid ((hgrowB.block NB (blk_lt HAZ.out) (fun e => by have := (HOX.out.lt NB e.symm).1; have := HNM.out; omega)).trans HAZ.out); have dB : wB.cell? ⟨NB, 1, none⟩ = some (.slice oa on oc) := cell_of_blk HNBB.out HA2.out; have fB := thaw HNBB.out 1; have hbB := cell_lt dB))
            all_goals
              have HNF := Lib.hid (show (wB.setCell ⟨NB, 1, none⟩ (.slice (some ⟨gg, 0, none⟩) (on + 1) cap8)).heap[NB]? = some (.cells (ar.setIfInBounds 1 (.slice (some ⟨gg, 0, none⟩) (on + 1) cap8)) 162) ∧ (ar.setIfInBounds 1 (.slice (some ⟨gg, 0, none⟩) (on + 1) cap8))[1]? = some (.slice (some ⟨gg, 0, none⟩) (on + 1) cap8) from ⟨setCell_heap HNBB.out, by rw [Array.getElem?_setIfInBounds_self_of_lt (Array.getElem?_eq_some_iff.1 HA2.out).1]⟩)
              have HOF := Lib.hid (show (wB.setCell ⟨NB, 1, none⟩ (.slice (some ⟨gg, 0, none⟩) (on + 1) cap8)).ownsRow M 68 4 (.slice (some ⟨gg, 0, none⟩) (on + 1) cap8) (o ++ [((.slice va xn vc, ⟨x.2.m, []⟩) : HV)]).length (flatC hC (o ++ [((.slice va xn vc, ⟨x.2.m, []⟩) : HV)])) from by
                rw [List.length_append, List.length_singleton, HON.out, flatC_push]
                exact owns_keep hownB (fun z hz => Below.heap_setCell _ _ _ _ (show z ≠ NB from by have := (hownB.lt z hz).1; have := HNM.out; omega)))
              have HSF := Lib.hid (show ∀ y ∈ o ++ [((.slice va xn vc, ⟨x.2.m, []⟩) : HV)], ∃ a n c, y.1 = .slice a n c from fun y hy => by
                rcases List.mem_append.1 hy with h | h
                · exact HOS.out y h
                · rw [List.mem_singleton] at h; subst h; exact ⟨va, xn, vc, rfl⟩)
              have HMF := Lib.hid (show (o ++ [((.slice va xn vc, ⟨x.2.m, []⟩) : HV)]).map (·.2.m) = (l.take (j + 1)).map (·.2.m) by rw [HT.out, List.map_append, List.map_append, HOM.out]; rfl)
              have HBF := Lib.hid (show Below N w (wB.setCell ⟨NB, 1, none⟩ (.slice (some ⟨gg, 0, none⟩) (on + 1) cap8)) from by
                have h1 : Below N w ((wx.alloc (.cells #[.int .i64 x.2.m.f, .int .i64 x.2.m.t, .int .i64 x.2.m.n, .slice va xn vc] 68)).drew) := by rw [HN.out]; exact (more_trans HMW.out (more_trans HMX.out HMZ.out)).below
                have h2 : N ≤ M := by have := HNM.out; have := HNE.out; have := HN.out; have := HM1.out.size; omega
                exact (h1.grown hgrowB (Nat.le_trans h2 HSZ.out) (fun z hz => Nat.le_trans h2 (HOX.out.lt z hz).1)).setCell (p := ⟨NB, 1, none⟩) (by show N ≤ NB; have := HNE.out; have := HN.out; have := HM1.out.size; omega) _)
              have HSS := Lib.hid (show M ≤ (wB.setCell ⟨NB, 1, none⟩ (.slice (some ⟨gg, 0, none⟩) (on + 1) cap8)).heap.size from by rw [World.size_setCell]; exact Nat.le_trans HSZ.out hgrowB.size)
              have HAF := Lib.hid (show (l.take (j + 1)).all (fun p => hoOkb p.2) = true by rw [HT.out, List.all_append, HALL.out]; simp [HQ.out])
              clear hownB hgrowB hatB dB fB hbB n0 k0 k1 k2 k3 hbn hbk nA
              have hlt9 := HLT.out
              go_wp2_with fail
              go_roundw
              case rel => exact ⟨j + 1, o ++ [(.slice va xn vc, ⟨x.2.m, []⟩)], _, _, by omega, by go_num, HNF, HOF, HSF, HMF, HBF, HSS, HAF⟩
              case measure => have := HLT.out; simp [intOf]; omega
    · obtain rfl : j = l.length := by omega
      rw [List.take_of_length_le (Nat.le_refl _)] at HALL
      go_wp2_with fail
      go_ret2
      exact ⟨⟨some ⟨NB, 0, none⟩, by rw [HE.out, HALL.out]; rfl⟩, HB.out⟩
end Go.Proofs.YtemeppfikpafbaaGreatDoor

/- certificate.checkHolds (94). -/
namespace Go.Proofs.YtemeppfikpafbaaGreatDoor
open Go.RowKit
/-- Holds that a certificate may have. -/
structure HoldsOk (hor : Int) (l : List HV) : Prop where
  asc : ∀ i (h : i + 1 < l.length), ltM l[i].2.m l[i + 1].2.m
  tk : ∀ p ∈ l, ∀ a ∈ p.2.al, a.2.tk ≤ hor
  ok : ∀ p ∈ l, hoOkb p.2 = true
theorem asc_pair {l : List HV} (h : ∀ i (h : i + 1 < l.length), ltM l[i].2.m l[i + 1].2.m) : l.Pairwise fun x y => ltM x.2.m y.2.m := by
  rw [List.pairwise_iff_getElem]
  intro i j hi hj hij
  induction j with
  | zero => omega
  | succ n ih =>
    rcases Nat.lt_or_eq_of_le (Nat.lt_succ_iff.1 hij) with h1 | h1
    · exact ltM_trans (ih (by omega) h1) (h n hj)
    · subst h1; exact h i hj
set_option maxRecDepth 100000 in
set_option maxHeartbeats 4000000 in
theorem checkHolds94_any (arr : Array Value) (hor : Int) (l : List HV) (v : Value) (w : World) (h33 : arr[33]? = some (.int .i64 hor)) (h36 : arr[36]? = some v) (hr : Row anyB w 4 l.length v (flatC hC l)) (hh : ∀ p ∈ l, HAt anyB w p) (hl : l.length ≤ 16) :
    Calls Tryz.prog 49 #[.agg arr] w fun e w' => (∃ E : Int, e = .returned (.int .i64 E) ∧ ((HoldsOk hor l ∧ E = 0) ∨ (¬ HoldsOk hor l ∧ E = 1))) ∧ Below w.heap.size w w' := by
  obtain ⟨a, cap, rfl, _⟩ := hr.shape
  have HR := Lib.hid hr; clear hr
  have HH := Lib.hid hh; clear hh
  obtain ⟨N, HN⟩ : ∃ N, Hid (N = w.heap.size) := ⟨_, Lib.hid rfl⟩
  have HB1 := Lib.hid (alloc_last w (.cells arr 35))
  have HM1 := Lib.hid (more_alloc w (.cells arr 35))
  rw [← HN.out] at HB1 ⊢
  go_enter Tryz.func49, Tryz.ntmps49
  go_upto_region 1 with (fail)
  rw [← HN.out]
  generalize w.alloc (.cells arr 35) = w1 at *
  have HA36 := Lib.hid h36
  have HA33 := Lib.hid h33
  have c36 : w1.cell? ⟨N, 36, none⟩ = some (.slice a l.length cap) := cell_of_blk HB1.out h36
  have hbc := cell_lt c36
  clear h36 h33
  go_wp2_with fail
  clear c36 hbc
  go_loopw [12] (fun i wr => ∃ j : Nat, j ≤ l.length ∧ i = .int .i64 j ∧ Hid (More w1 wr) ∧ Hid (∀ i (h : i + 1 < l.length), i + 1 < j → ltM l[i].2.m l[i + 1].2.m) ∧ Hid (∀ p ∈ l.take j, ∀ a ∈ p.2.al, a.2.tk ≤ hor)) (fun i _ => l.length - (intOf i).toNat)
  case atStart => exact ⟨0, Nat.zero_le _, rfl, Lib.hid (World.grownBy.refl _ _), Lib.hid (fun i _ h => by omega), Lib.hid (fun p h => by simp at h)⟩
  case round =>
    obtain ⟨j, hj, rfl, HM, HAS, HTK⟩ := hrel
    obtain ⟨wo, rfl⟩ : ∃ wo : World, wo = wr := ⟨_, rfl⟩
    have HMW := Lib.hid (more_trans HM1.out HM.out)
    by_cases hlt : j < l.length
    · obtain ⟨b, off, rfl, _, hc⟩ := HR.out.atC hC_len hlt
      have g0 := HMW.out.cell (hc 0 (.int .i64 l[j].2.m.f) rfl)
      have g1 := HMW.out.cell (hc 1 (.int .i64 l[j].2.m.t) rfl)
      have g2 := HMW.out.cell (hc 2 (.int .i64 l[j].2.m.n) rfl)
      have g3 := HMW.out.cell (hc 3 l[j].1 rfl)
      rw [Nat.add_zero] at g0
      clear hc
      have HHX := Lib.hid ((HH.out _ (List.getElem_mem hlt)).more HMW.out)
      obtain ⟨xa, xc, hxv, _⟩ := HHX.out.row.shape
      rw [hxv] at g3
      have HXV := Lib.hid hxv
      clear hxv
      have HT := Lib.hid (show l.take (j + 1) = l.take j ++ [l[j]] from List.take_succ_eq_append_getElem hlt)
      have HME := Lib.hid (List.getElem_mem hlt)
      obtain ⟨z, HZ⟩ : ∃ z : Bool, Hid (z = if h : 0 < j then !decide (cmpM3 (l[j - 1]'(by omega)).2.m l[j].2.m < 0) else false) := ⟨_, Lib.hid rfl⟩
      have HZ0 := Lib.hid (show z = true → ¬ HoldsOk hor l from fun h hk => by
        rw [HZ.out] at h
        by_cases h0 : 0 < j
        · rw [dif_pos h0] at h
          have h1 := hk.asc (j - 1) (by omega)
          have h2 : j - 1 + 1 = j := by omega
          simp only [h2] at h1
          rw [← cmpM_by.neg] at h1
          rw [decide_eq_true h1] at h
          cases h
        · rw [dif_neg h0] at h; cases h)
      have HZ1 := Lib.hid (show z = false → ∀ i (h : i + 1 < l.length), i + 1 < j + 1 → ltM l[i].2.m l[i + 1].2.m from fun h i hi hij => by
        rcases Nat.lt_or_eq_of_le (Nat.lt_succ_iff.1 hij) with h1 | h1
        · exact HAS.out i hi h1
        · rw [HZ.out, dif_pos (by omega)] at h
          rw [Bool.not_eq_false', decide_eq_true_iff, cmpM_by.neg] at h
          have h2 : j - 1 = i := by omega
          simp only [h2] at h
          simp only [h1]
          exact h)
      have HPV := Lib.hid (show ∀ i0, j = i0 + 1 → ∃ (p : HV), (z = !decide (cmpM3 p.2.m l[j].2.m < 0)) ∧ wo.cell? ⟨b, off + i0 * 4, none⟩ = some (.int .i64 p.2.m.f) ∧ wo.cell? ⟨b, off + i0 * 4 + 1, none⟩ = some (.int .i64 p.2.m.t) ∧ wo.cell? ⟨b, off + i0 * 4 + 2, none⟩ = some (.int .i64 p.2.m.n) from fun i0 hi0 => by
        have hi1 : i0 < l.length := by omega
        obtain ⟨b', off', hab, _, hc⟩ := HR.out.atC hC_len hi1
        cases hab
        refine ⟨l[i0], ?_, ?_, HMW.out.cell (hc 1 _ rfl), HMW.out.cell (hc 2 _ rfl)⟩
        · rw [HZ.out, dif_pos (by omega)]
          have h2 : j - 1 = i0 := by omega
          simp only [h2]
        · have h3 := HMW.out.cell (hc 0 (.int .i64 l[i0].2.m.f) rfl)
          rw [Nat.add_zero] at h3
          exact h3)
      have HZ2 := Lib.hid (show j = 0 → z = false from fun h => by rw [HZ.out, dif_neg (by omega)])
      clear HZ
      have HLT := Lib.hid hlt
      generalize l[j] = x at *
      have hbg := cell_lt g0
      have HXB := Lib.hid (alloc_last wo (.cells #[.int .i64 x.2.m.f, .int .i64 x.2.m.t, .int .i64 x.2.m.n, .slice xa x.2.al.length xc] 68))
      have HMO := Lib.hid (more_alloc wo (.cells #[.int .i64 x.2.m.f, .int .i64 x.2.m.t, .int .i64 x.2.m.n, .slice xa x.2.al.length xc] 68))
      go_upto_region 4 with (fail)
      clear g0 g1 g2 g3 hbg
      generalize wo.alloc (.cells #[.int .i64 x.2.m.f, .int .i64 x.2.m.t, .int .i64 x.2.m.n, .slice xa x.2.al.length xc] 68) = w5 at *
      obtain ⟨XB, HXE⟩ : ∃ XB, Hid (XB = wo.heap.size) := ⟨_, Lib.hid rfl⟩
      rw [← HXE.out] at HXB ⊢
      have HNB5 := Lib.hid (((more_trans HM.out HMO.out).block (blk_lt HB1.out)).trans HB1.out)
      go_cut [31] (fun s wx => s = .bool z ∧ Hid (More w5 wx))
      case first =>
        by_cases hj0 : j = 0
        · subst hj0
          have hz := HZ2.out rfl
          subst hz
          go_quiet (fail)
          go_wp2_with fail
          go_meet
          case rel => exact ⟨rfl, Lib.hid (grownBy_drewN _ _ _)⟩
        · obtain ⟨i0, rfl⟩ : ∃ i0, j = i0 + 1 := ⟨j - 1, by omega⟩
          obtain ⟨p, hz, e0, e1, e2⟩ := HPV.out i0 rfl
          have e0 := HMO.out.cell e0
          have e1 := HMO.out.cell e1
          have e2 := HMO.out.cell e2
          have HC := Lib.hid (show ∀ W, Calls Tryz.prog 81 #[.agg #[.int .i64 p.2.m.f, .int .i64 p.2.m.t, .int .i64 p.2.m.n], .agg #[.int .i64 x.2.m.f, .int .i64 x.2.m.t, .int .i64 x.2.m.n]] W fun e w' => e = .returned (.bool (decide (cmpM3 p.2.m x.2.m < 0))) ∧ Lay W w' from fun W => lessM145 p.2.m x.2.m W)
          obtain ⟨q, HQ⟩ : ∃ q, Hid (decide (cmpM3 p.2.m x.2.m < 0) = q) := ⟨_, Lib.hid rfl⟩
          rw [HQ.out] at HC hz
          have HZQ := Lib.hid hz
          clear hz hj0
          have n36 : w5.cell? ⟨N, 36, none⟩ = some (.slice (some ⟨b, off, none⟩) l.length cap) := cell_of_blk HNB5.out HA36.out
          have x0 : w5.cell? ⟨XB, 0, none⟩ = some (.int .i64 x.2.m.f) := cell_of_blk HXB.out rfl
          have x1 : w5.cell? ⟨XB, 1, none⟩ = some (.int .i64 x.2.m.t) := cell_of_blk HXB.out rfl
          have x2 : w5.cell? ⟨XB, 2, none⟩ = some (.int .i64 x.2.m.n) := cell_of_blk HXB.out rfl
          have hwi : IntKind.i64.wrap (i0 : Int) = i0 := by rw [IntKind.wrap_i64]; omega
          have hbn := cell_lt n36
          have hbx := cell_lt x0
          have hbe := cell_lt e0
          have hil : (i0 : Int) < l.length := by omega
          have HK := Lib.hid (show ∀ W, More w5 W → (W.cell? ⟨N, 36, none⟩ = some (.slice (some ⟨b, off, none⟩) l.length cap) ∧ W.cell? ⟨b, off + i0 * 4, none⟩ = some (.int .i64 p.2.m.f) ∧ W.cell? ⟨b, off + i0 * 4 + 1, none⟩ = some (.int .i64 p.2.m.t) ∧ W.cell? ⟨b, off + i0 * 4 + 2, none⟩ = some (.int .i64 p.2.m.n) ∧ W.cell? ⟨XB, 0, none⟩ = some (.int .i64 x.2.m.f) ∧ W.cell? ⟨XB, 1, none⟩ = some (.int .i64 x.2.m.t) ∧ W.cell? ⟨XB, 2, none⟩ = some (.int .i64 x.2.m.n)) from fun W h => ⟨h.cell n36, h.cell e0, h.cell e1, h.cell e2, h.cell x0, h.cell x1, h.cell x2⟩)
          have HL := Lib.hid (more_drew w5)
          go_region_held3 (fun W => W.cell? ⟨N, 36, none⟩ = some (.slice (some ⟨b, off, none⟩) l.length cap) ∧ W.cell? ⟨b, off + i0 * 4, none⟩ = some (.int .i64 p.2.m.f) ∧ W.cell? ⟨b, off + i0 * 4 + 1, none⟩ = some (.int .i64 p.2.m.t) ∧ W.cell? ⟨b, off + i0 * 4 + 2, none⟩ = some (.int .i64 p.2.m.n) ∧ W.cell? ⟨XB, 0, none⟩ = some (.int .i64 x.2.m.f) ∧ W.cell? ⟨XB, 1, none⟩ = some (.int .i64 x.2.m.t) ∧ W.cell? ⟨XB, 2, none⟩ = some (.int .i64 x.2.m.n)) (first | with_reducible exact HK.out _ HL.out) (first | (go_at_call 81; refine (HC.out _).mono ?_; rintro e w9 ⟨rfl, hl9⟩; have HL := Lib.hid (more_trans HL.out hl9.1); clear hl9))
          all_goals
            go_wp2_with fail
            go_meet
            case rel => exact ⟨by rw [HZQ.out], HL⟩
      case rest =>
        obtain ⟨rfl, HMC⟩ := hcut
        obtain ⟨w6, rfl⟩ : ∃ w6 : World, w6 = wc := ⟨_, rfl⟩
        have HM6 := Lib.hid (more_trans HM.out (more_trans HMO.out HMC.out))
        have HB6 := Lib.hid (show Below N w w6 by rw [HN.out]; exact (more_trans HM1.out HM6.out).below)
        cases z with
        | true =>
          go_wp2_with fail
          go_ret
          exact ⟨⟨1, rfl, Or.inr ⟨(by first | exact HZ0.out rfl | exact HZ0.out trivial), rfl⟩⟩, HB6.out⟩
        | false =>
          have HXB6 := Lib.hid ((HMC.out.block (blk_lt HXB.out)).trans HXB.out)
          have HNB6 := Lib.hid ((HM6.out.block (blk_lt HB1.out)).trans HB1.out)
          have x3 : w6.cell? ⟨XB, 3, none⟩ = some (.slice xa x.2.al.length xc) := cell_of_blk HXB6.out rfl
          have hbx := cell_lt x3
          obtain ⟨an, HAN⟩ : ∃ an, Hid (x.2.al.length = an) := ⟨_, Lib.hid rfl⟩
          rw [HAN.out] at x3
          have han : an ≤ 9223372036854775807 := by have h1 := HHX.out.len; unfold maxLen at h1; have h2 := HAN.out; omega
          go_wp2_with fail
          clear x3 hbx
          go_loopw [35] (fun i wx => ∃ m : Nat, m ≤ an ∧ i = .int .i64 m ∧ Hid (More w6 wx) ∧ Hid (∀ q ∈ x.2.al.take m, q.2.tk ≤ hor)) (fun i _ => an - (intOf i).toNat)
          case atStart => exact ⟨0, Nat.zero_le _, rfl, Lib.hid (World.grownBy.refl _ _), Lib.hid (fun p h => by simp at h)⟩
          case round =>
            obtain ⟨m, hm, rfl, HMX, HTX⟩ := hrel
            obtain ⟨wx, rfl⟩ : ∃ wx : World, wx = wr := ⟨_, rfl⟩
            have HMZ := Lib.hid (more_trans HM6.out HMX.out)
            have HBZ := Lib.hid (show Below N w wx by rw [HN.out]; exact (more_trans HM1.out HMZ.out).below)
            by_cases hmt : m < an
            · have hml : m < x.2.al.length := by rw [HAN.out]; exact hmt
              have hrw := HHX.out.row
              rw [HXV.out] at hrw
              obtain ⟨b2, off2, rfl, _, hc⟩ := hrw.atC aC_len hml
              have HWX := Lib.hid (show More wo wx from more_trans HMO.out (more_trans HMC.out HMX.out))
              have e0 := HWX.out.cell (hc 0 (.int .i64 x.2.al[m].2.tk) rfl)
              have e1 := HWX.out.cell (hc 1 (.int .i64 x.2.al[m].2.hd) rfl)
              have e2 := HWX.out.cell (hc 2 x.2.al[m].1 rfl)
              rw [Nat.add_zero] at e0
              clear hc hrw
              obtain ⟨ya, yc, hyv, _⟩ := (HHX.out.arg _ (List.getElem_mem hml)).1.shape
              rw [hyv] at e2
              clear hyv
              have HTM := Lib.hid (show x.2.al.take (m + 1) = x.2.al.take m ++ [x.2.al[m]] from List.take_succ_eq_append_getElem hml)
              have HBAD := Lib.hid (show ¬ x.2.al[m].2.tk ≤ hor → ¬ HoldsOk hor l from fun h hk => h (hk.tk _ HME.out _ (List.getElem_mem hml)))
              have HMT := Lib.hid hmt
              generalize x.2.al[m] = y at *
              clear hml
              have hbe := cell_lt e0
              have HYB := Lib.hid (alloc_last wx (.cells #[.int .i64 y.2.tk, .int .i64 y.2.hd, .slice ya y.2.l.length yc] 72))
              have HMY := Lib.hid (more_alloc wx (.cells #[.int .i64 y.2.tk, .int .i64 y.2.hd, .slice ya y.2.l.length yc] 72))
              go_upto_region 9 with (fail)
              clear e0 e1 e2 hbe
              generalize wx.alloc (.cells #[.int .i64 y.2.tk, .int .i64 y.2.hd, .slice ya y.2.l.length yc] 72) = w9 at *
              generalize wx.heap.size = YB at *
              have HNB9 := Lib.hid (((more_trans HMZ.out HMY.out).block (blk_lt HB1.out)).trans HB1.out)
              have HB9 := Lib.hid (show Below N w w9 by rw [HN.out]; exact (more_trans HM1.out (more_trans HMZ.out HMY.out)).below)
              have y0 : w9.cell? ⟨YB, 0, none⟩ = some (.int .i64 y.2.tk) := cell_of_blk HYB.out rfl
              have n33 : w9.cell? ⟨N, 33, none⟩ = some (.int .i64 hor) := cell_of_blk HNB9.out HA33.out
              have hby := cell_lt y0
              have hbn := cell_lt n33
              by_cases hgt : hor < y.2.tk
              · have HB := Lib.hid (HBAD.out (by omega))
                go_wp2_with fail
                go_ret
                exact ⟨⟨1, rfl, Or.inr ⟨HB.out, rfl⟩⟩, HB9.out⟩
              · have hd0 : decide (hor < y.2.tk) = false := decide_eq_false hgt
                have HLE := Lib.hid (show y.2.tk ≤ hor by omega)
                clear hgt
                have hmt9 := HMT.out
                go_wp2_with fail
                go_roundw
                case rel => exact ⟨m + 1, by omega, by go_num, Lib.hid (more_trans HMX.out HMY.out), Lib.hid (fun q hq => by
                  rw [HTM.out] at hq
                  rcases List.mem_append.1 hq with h | h
                  · exact HTX.out q h
                  · rw [List.mem_singleton] at h; subst h; exact HLE.out)⟩
                case measure => have := HMT.out; simp [intOf]; omega
            · obtain rfl : m = an := by omega
              rw [List.take_of_length_le (by rw [HAN.out]; exact Nat.le_refl _)] at HTX
              have hlt9 := HLT.out
              go_wp2_with fail
              go_roundw
              case rel => exact ⟨j + 1, by omega, by go_num, Lib.hid (more_trans HM6.out HMX.out), Lib.hid (HZ1.out (by first | rfl | trivial)), Lib.hid (fun p hp => by
                  rw [HT.out] at hp
                  rcases List.mem_append.1 hp with h | h
                  · exact HTK.out p h
                  · rw [List.mem_singleton] at h; subst h; exact HTX.out)⟩
              case measure => have := HLT.out; simp [intOf]; omega
    · obtain rfl : j = l.length := by omega
      rw [List.take_of_length_le (Nat.le_refl _)] at HTK
      have HASC := Lib.hid (show ∀ i (h : i + 1 < l.length), ltM l[i].2.m l[i + 1].2.m from fun i h => HAS.out i h (by omega))
      have HNB6 := Lib.hid ((HM.out.block (blk_lt HB1.out)).trans HB1.out)
      have n36 : wo.cell? ⟨N, 36, none⟩ = some (.slice a l.length cap) := cell_of_blk HNB6.out HA36.out
      have hbn := cell_lt n36
      have HNW := Lib.hid (new146_any l (.slice a l.length cap) wo hl (HR.out.below HMW.out.below) (fun p hp => (HH.out p hp).more HMW.out) ((asc_pair HASC.out).imp fun h e => by rw [e] at h; exact ltM_irrefl _ h))
      clear hlt hj
      go_wp2_with fail
      refine HNW.out.mono ?_
      rintro e w6 ⟨⟨q, rfl⟩, hb6⟩
      have HB6 := Lib.hid (show Below N w w6 by rw [HN.out]; exact (more_trans HMW.out (more_of hb6)).below)
      clear hb6 n36 hbn
      obtain ⟨z, HZ⟩ : ∃ z, Hid (l.all (fun p => hoOkb p.2) = z) := ⟨_, Lib.hid rfl⟩
      rw [HZ.out]
      cases z with
      | true =>
        go_wp2_with fail
        go_ret
        exact ⟨⟨0, rfl, Or.inl ⟨⟨HASC.out, HTK.out, fun p hp => List.all_eq_true.1 HZ.out p hp⟩, rfl⟩⟩, HB6.out⟩
      | false =>
        go_wp2_with fail
        go_ret
        have HBAD := Lib.hid (show ¬ HoldsOk hor l from fun hk => by
          have h1 := HZ.out
          rw [List.all_eq_true.2 (fun p hp => hk.ok p hp)] at h1
          exact Bool.noConfusion h1)
        exact ⟨⟨1, rfl, Or.inr ⟨HBAD.out, rfl⟩⟩, HB6.out⟩
end Go.Proofs.YtemeppfikpafbaaGreatDoor

