/- Texts SorG, ChkG, CloG, Cho1, BuildC, Cho2, laid together. -/
import Derived.Deep.CutBlock
import Derived.StillTailTactics
import Derived.Test.YtemeppfikpafbaaGreatDoorBa
import Derived.Test.YtemeppfikpafbaaGreatDoorBb
/- The reference's Sort of choices (rootcauseref17.Sort, 144): by key, the first one of each key. -/
namespace Go.Proofs.YtemeppfikpafbaaGreatDoor
open Go.RowKit
def insG (c : GV) : List GV → Bool → List GV
  | [], d => if d then [] else [c]
  | x :: r, d => if (d || decide (x.2.k = c.2.k)) = false ∧ ltK c.2.k x.2.k then c :: x :: insG c r true else x :: insG c r (d || decide (x.2.k = c.2.k))
def AscG (l : List GV) : Prop := l.Pairwise fun x y => ltK x.2.k y.2.k
theorem insG_true (c : GV) : ∀ l : List GV, insG c l true = l
  | [] => by simp [insG]
  | x :: r => by simp [insG, insG_true c r]
theorem insG_mem (c : GV) : ∀ (l : List GV) (d : Bool), ∀ p ∈ insG c l d, p ∈ l ∨ p = c
  | [], d, p, h => by cases d <;> simp [insG] at h; exact Or.inr h
  | x :: r, d, p, h => by
    unfold insG at h
    split at h
    · rw [insG_true] at h
      simp only [List.mem_cons] at h ⊢
      rcases h with h | h | h
      · exact Or.inr h
      · exact Or.inl (Or.inl h)
      · exact Or.inl (Or.inr h)
    · rcases List.mem_cons.1 h with h | h
      · exact Or.inl (by simp [h])
      · rcases insG_mem c r _ p h with h | h
        · exact Or.inl (by simp [h])
        · exact Or.inr h
theorem insG_len (c : GV) : ∀ (l : List GV) (d : Bool), (insG c l d).length ≤ l.length + 1
  | [], d => by cases d <;> simp [insG]
  | x :: r, d => by
    unfold insG
    split
    · rw [insG_true]; simp
    · have := insG_len c r (d || decide (x.2.k = c.2.k)); simp; omega
theorem insG_asc (c : GV) : ∀ (l : List GV), AscG l → AscG (insG c l false)
  | [], _ => by simp [insG, AscG]
  | x :: r, h => by
    unfold AscG at h
    rw [List.pairwise_cons] at h
    unfold insG
    split
    · rename_i hc
      rw [insG_true]
      unfold AscG
      rw [List.pairwise_cons, List.pairwise_cons]
      refine ⟨fun y hy => ?_, h.1, h.2⟩
      rcases List.mem_cons.1 hy with rfl | hy
      · exact hc.2
      · exact ltK_trans hc.2 (h.1 y hy)
    · rename_i hc
      rw [Bool.false_or] at hc ⊢
      by_cases he : x.2.k = c.2.k
      · rw [decide_eq_true he, insG_true]
        unfold AscG
        rw [List.pairwise_cons]
        exact h
      · rw [decide_eq_false he] at hc ⊢
        have hx : ltK x.2.k c.2.k := by
          by_cases h1 : ltK x.2.k c.2.k
          · exact h1
          · by_cases h2 : ltK c.2.k x.2.k
            · exact absurd ⟨rfl, h2⟩ hc
            · exact absurd (ltK_tri h1 h2) he
        unfold AscG
        rw [List.pairwise_cons]
        refine ⟨fun y hy => ?_, insG_asc c r h.2⟩
        rcases insG_mem c r false y hy with h1 | rfl
        · exact h.1 y h1
        · exact hx
theorem room72 {n : Nat} (h : n ≤ 1003) : n ≤ maxLen ∧ n * 72 ≤ 140737488355328 := by unfold maxLen; omega
theorem insG_skip {c x : GV} {r : List GV} {d : Bool} (h : (d || decide (x.2.k = c.2.k)) = true ∨ ltKb c.2.k x.2.k = false) : insG c (x :: r) d = x :: insG c r (d || decide (x.2.k = c.2.k)) := by
  rw [insG, if_neg]
  rintro ⟨h1, h2⟩
  rcases h with h | h
  · rw [h1] at h; cases h
  · rw [(ltKb_iff _ _).2 h2] at h; cases h
theorem insG_put {c x : GV} {r : List GV} (h1 : ¬ x.2.k = c.2.k) (h2 : ltK c.2.k x.2.k) : insG c (x :: r) false = c :: x :: insG c r true := by
  rw [insG, if_pos ⟨by rw [decide_eq_false h1]; rfl, h2⟩]
set_option maxRecDepth 100000 in
set_option maxHeartbeats 4000000 in
theorem sort144_any (l : List GV) (v : Value) (w : World) (hl : l.length ≤ 1000) (hr : Row anyB w 7 l.length v (flatC gC l)) (h1c : ∀ p ∈ l, ∃ a c, p.1 = .slice a p.2.l.length c) :
    Calls Tryz.prog 52 #[v] w fun e w' => (∃ v' l', e = .returned v' ∧ w'.ownsRow w.heap.size 58 7 v' l'.length (flatC gC l') ∧ AscG l' ∧ (∀ p ∈ l', p ∈ l) ∧ l'.length ≤ l.length) ∧ Below w.heap.size w w' := by
  obtain ⟨a, cap, rfl, _⟩ := hr.shape
  have HR := Lib.hid hr; clear hr
  have H1 := Lib.hid h1c; clear h1c
  have HL := Lib.hid hl
  obtain ⟨i0, hi0, hz0, hz1, hz2⟩ := info_parts infoG
  obtain ⟨N, HN⟩ : ∃ N, Hid (N = w.heap.size) := ⟨_, Lib.hid rfl⟩
  rw [← HN.out]
  go_enter Tryz.func52, Tryz.ntmps52
  go_wp2_with fail
  go_loopw [3, 12] (fun u i wr => ∃ (j : Nat) (o : List GV), j ≤ l.length ∧ i = .int .i64 j ∧ Hid (wr.ownsRow N 58 7 u o.length (flatC gC o)) ∧ Hid (Below N w wr) ∧ Hid (AscG o) ∧ Hid (∀ p ∈ o, p ∈ l) ∧ Hid (o.length ≤ j)) (fun _ i _ => l.length - (intOf i).toNat)
  case atStart => exact ⟨0, [], Nat.zero_le _, rfl, Lib.hid (World.ownsRow_nil _ _ _ _), Lib.hid (Below.refl _ _), Lib.hid List.Pairwise.nil, Lib.hid (fun p h => by simp at h), Lib.hid (Nat.le_refl _)⟩
  case round =>
    obtain ⟨j, o, hj, rfl, HO, HB, HA, HM, HOL⟩ := hrel
    obtain ⟨wo, rfl⟩ : ∃ wo : World, wo = wr := ⟨_, rfl⟩
    have HMW := Lib.hid (show More w wo from by have := HB.out; rw [HN.out] at this; exact more_of this)
    have HNO := Lib.hid (show N ≤ wo.heap.size by rw [HN.out]; exact HMW.out.size)
    obtain ⟨oa, oc, rfl, _⟩ := owns_shape HO.out
    by_cases hlt : j < l.length
    · obtain ⟨b, off, rfl, _, hc⟩ := HR.out.atC gC_len hlt
      have g0 := HMW.out.cell (hc 0 (.int .u8 l[j].2.k.kind) rfl)
      have g1 := HMW.out.cell (hc 1 (.int .i64 l[j].2.k.a) rfl)
      have g2 := HMW.out.cell (hc 2 (.int .i64 l[j].2.k.b) rfl)
      have g3 := HMW.out.cell (hc 3 (.int .i64 l[j].2.k.n) rfl)
      have g4 := HMW.out.cell (hc 4 (.int .i64 l[j].2.t) rfl)
      have g5 := HMW.out.cell (hc 5 (.int .i64 l[j].2.d) rfl)
      have g6 := HMW.out.cell (hc 6 (l[j].1) rfl)
      rw [Nat.add_zero] at g0
      clear hc
      have HCM := Lib.hid (List.getElem_mem hlt)
      obtain ⟨ca, cc, hcv⟩ := H1.out _ (List.getElem_mem hlt)
      rw [hcv] at g6
      have HGC := Lib.hid (show gC l[j] = [.int .u8 l[j].2.k.kind, .int .i64 l[j].2.k.a, .int .i64 l[j].2.k.b, .int .i64 l[j].2.k.n, .int .i64 l[j].2.t, .int .i64 l[j].2.d, .slice ca l[j].2.l.length cc] by unfold gC; rw [hcv])
      clear hcv
      have HLT := Lib.hid hlt
      generalize l[j] = c at *
      have hbg := cell_lt g0
      have HXC := Lib.hid (alloc_last wo (.cells #[.int .u8 c.2.k.kind, .int .i64 c.2.k.a, .int .i64 c.2.k.b, .int .i64 c.2.k.n, .int .i64 c.2.t, .int .i64 c.2.d, .slice ca c.2.l.length cc] 58))
      have HM5 := Lib.hid (more_alloc wo (.cells #[.int .u8 c.2.k.kind, .int .i64 c.2.k.a, .int .i64 c.2.k.b, .int .i64 c.2.k.n, .int .i64 c.2.t, .int .i64 c.2.d, .slice ca c.2.l.length cc] 58))
      go_upto_region 5 with (fail)
      clear g0 g1 g2 g3 g4 g5 g6 hbg
      generalize wo.alloc (.cells #[.int .u8 c.2.k.kind, .int .i64 c.2.k.a, .int .i64 c.2.k.b, .int .i64 c.2.k.n, .int .i64 c.2.t, .int .i64 c.2.d, .slice ca c.2.l.length cc] 58) = w5 at *
      obtain ⟨CB, HCB⟩ : ∃ CB, Hid (CB = wo.heap.size) := ⟨_, Lib.hid rfl⟩
      rw [← HCB.out] at HXC ⊢
      have HO5 := Lib.hid (owns_keep HO.out (fun z hz => HM5.out.block (HO.out.lt z hz).2))
      have HR5 := Lib.hid ((Row.of_owns HO5.out).mono (S' := anyB) (fun _ _ => trivial) (fun _ _ _ _ h => h))
      obtain ⟨N2, HN2⟩ : ∃ N2, Hid (N2 = w5.heap.size) := ⟨_, Lib.hid rfl⟩
      have hol : o.length ≤ 1000 := by have := HOL.out; have := HL.out; omega
      go_wp2_with fail
      go_loopw [6, 7, 18] (fun u d i wx => ∃ (m : Nat) (nx : List GV) (dn : Bool), m ≤ o.length ∧ d = .bool dn ∧ i = .int .i64 m ∧ Hid (wx.ownsRow N2 58 7 u nx.length (flatC gC nx)) ∧ Hid (Below N2 w5 wx) ∧ Hid (nx ++ insG c (o.drop m) dn = insG c o false)) (fun _ _ i _ => o.length - (intOf i).toNat)
      case atStart => exact ⟨0, [], false, Nat.zero_le _, rfl, rfl, Lib.hid (World.ownsRow_nil _ _ _ _), Lib.hid (Below.refl _ _), Lib.hid (by simp)⟩
      case round =>
        obtain ⟨m, nx, dn, hm, rfl, rfl, HX, HBX, HE⟩ := hrel
        obtain ⟨wx, rfl⟩ : ∃ wx : World, wx = wr := ⟨_, rfl⟩
        have HMX := Lib.hid (show More w5 wx from by have := HBX.out; rw [HN2.out] at this; exact more_of this)
        have HNX := Lib.hid (show N2 ≤ wx.heap.size by rw [HN2.out]; exact HMX.out.size)
        have HNL := Lib.hid (show nx.length ≤ 1001 by have h1 := congrArg List.length HE.out; have h2 := insG_len c o false; rw [List.length_append] at h1; omega)
        have HCX := Lib.hid ((HMX.out.block (blk_lt HXC.out)).trans HXC.out)
        obtain ⟨na, nc, rfl, _⟩ := owns_shape HX.out
        by_cases hmt : m < o.length
        · obtain ⟨b2, off2, rfl, _, hc⟩ := HR5.out.atC gC_len hmt
          have e0 := HMX.out.cell (hc 0 (.int .u8 o[m].2.k.kind) rfl)
          have e1 := HMX.out.cell (hc 1 (.int .i64 o[m].2.k.a) rfl)
          have e2 := HMX.out.cell (hc 2 (.int .i64 o[m].2.k.b) rfl)
          have e3 := HMX.out.cell (hc 3 (.int .i64 o[m].2.k.n) rfl)
          have e4 := HMX.out.cell (hc 4 (.int .i64 o[m].2.t) rfl)
          have e5 := HMX.out.cell (hc 5 (.int .i64 o[m].2.d) rfl)
          have e6 := HMX.out.cell (hc 6 (o[m].1) rfl)
          rw [Nat.add_zero] at e0
          clear hc
          obtain ⟨xa, xc, hxv⟩ := H1.out _ (HM.out _ (List.getElem_mem hmt))
          rw [hxv] at e6
          have HGX := Lib.hid (show gC o[m] = [.int .u8 o[m].2.k.kind, .int .i64 o[m].2.k.a, .int .i64 o[m].2.k.b, .int .i64 o[m].2.k.n, .int .i64 o[m].2.t, .int .i64 o[m].2.d, .slice xa o[m].2.l.length xc] by unfold gC; rw [hxv])
          clear hxv
          rw [List.drop_eq_getElem_cons hmt] at HE
          have HMT := Lib.hid hmt
          generalize o[m] = x at *
          have hbe := cell_lt e0
          have HXX := Lib.hid (alloc_last wx (.cells #[.int .u8 x.2.k.kind, .int .i64 x.2.k.a, .int .i64 x.2.k.b, .int .i64 x.2.k.n, .int .i64 x.2.t, .int .i64 x.2.d, .slice xa x.2.l.length xc] 58))
          have HM6 := Lib.hid (more_alloc wx (.cells #[.int .u8 x.2.k.kind, .int .i64 x.2.k.a, .int .i64 x.2.k.b, .int .i64 x.2.k.n, .int .i64 x.2.t, .int .i64 x.2.d, .slice xa x.2.l.length xc] 58))
          go_upto_region 10 with (fail)
          clear e0 e1 e2 e3 e4 e5 e6 hbe
          generalize wx.alloc (.cells #[.int .u8 x.2.k.kind, .int .i64 x.2.k.a, .int .i64 x.2.k.b, .int .i64 x.2.k.n, .int .i64 x.2.t, .int .i64 x.2.d, .slice xa x.2.l.length xc] 58) = w6 at *
          obtain ⟨XB, HXB⟩ : ∃ XB, Hid (XB = wx.heap.size) := ⟨_, Lib.hid rfl⟩
          rw [← HXB.out] at HXX ⊢
          have HZX := Lib.hid (show ∀ z, (Value.slice na nx.length nc).ownBlock = some z → N2 ≤ z ∧ z < XB from fun z hz => by rw [HXB.out]; exact HX.out.lt z hz)
          have HC6 := Lib.hid ((HM6.out.block (blk_lt HCX.out)).trans HCX.out)
          have HX6 := Lib.hid (owns_keep HX.out (fun z hz => HM6.out.block (Nat.lt_of_lt_of_le (HX.out.lt z hz).2 (Nat.le_refl _))))
          have HB6 := Lib.hid (show Below N2 w5 w6 from HBX.out.trans (HM6.out.below.mono (by have := HNX.out; have := HM6.out.size; omega)))
          have HR1 := Lib.hid (room72 (n := nx.length + 1) (Nat.le_trans (Nat.succ_le_succ HNL.out) (by decide)))
          have HR2 := Lib.hid (room72 (n := nx.length + 1 + 1) (Nat.succ_le_succ (Nat.succ_le_succ HNL.out)))
          have heq := fun W => run_eqK x.2.k c.2.k W
          have HL7 := Lib.hid (fun W => lessK_ref c.2.k x.2.k W)
          have HS6 := Lib.hid (show N2 ≤ w6.heap.size by have := HNX.out; have := HM6.out.size; omega)
          by_cases he : x.2.k = c.2.k
          · rw [decide_eq_true he] at heq
            have HET := Lib.hid (insG_skip (c := c) (r := o.drop (m + 1)) (d := dn) (x := x) (Or.inl (by rw [decide_eq_true he, Bool.or_true])))
            rw [decide_eq_true he, Bool.or_true] at HET
            clear he
            have x0 : w6.cell? ⟨XB, 0, none⟩ = some (.int .u8 x.2.k.kind) := cell_of_blk HXX.out rfl
            have x1 : w6.cell? ⟨XB, 1, none⟩ = some (.int .i64 x.2.k.a) := cell_of_blk HXX.out rfl
            have x2 : w6.cell? ⟨XB, 2, none⟩ = some (.int .i64 x.2.k.b) := cell_of_blk HXX.out rfl
            have x3 : w6.cell? ⟨XB, 3, none⟩ = some (.int .i64 x.2.k.n) := cell_of_blk HXX.out rfl
            have x4 : w6.cell? ⟨XB, 4, none⟩ = some (.int .i64 x.2.t) := cell_of_blk HXX.out rfl
            have x5 : w6.cell? ⟨XB, 5, none⟩ = some (.int .i64 x.2.d) := cell_of_blk HXX.out rfl
            have x6 : w6.cell? ⟨XB, 6, none⟩ = some (.slice xa x.2.l.length xc) := cell_of_blk HXX.out rfl
            have k0 : w6.cell? ⟨CB, 0, none⟩ = some (.int .u8 c.2.k.kind) := cell_of_blk HC6.out rfl
            have k1 : w6.cell? ⟨CB, 1, none⟩ = some (.int .i64 c.2.k.a) := cell_of_blk HC6.out rfl
            have k2 : w6.cell? ⟨CB, 2, none⟩ = some (.int .i64 c.2.k.b) := cell_of_blk HC6.out rfl
            have k3 : w6.cell? ⟨CB, 3, none⟩ = some (.int .i64 c.2.k.n) := cell_of_blk HC6.out rfl
            go_wp2_with (at_builtin; refine wpList_append_own _ rfl _ _ 23 rfl N2 58 i0 _ 7 72 Tryz.underlying23 hi0 hz0 hz1 hz2 rfl (by omega) (.slice na nx.length nc) nx.length (flatC gC nx) rfl (owns_keep HX6.out (fun z hz => Below.heap_alloc w6 _ _ (HX6.out.lt z hz).2)) ⟨w6.heap.size, 0, none⟩ 1 1 [.int .u8 x.2.k.kind, .int .i64 x.2.k.a, .int .i64 x.2.k.b, .int .i64 x.2.k.n, .int .i64 x.2.t, .int .i64 x.2.d, .slice xa x.2.l.length xc] rfl rfl (World.news_of_block (cs := #[.int .u8 x.2.k.kind, .int .i64 x.2.k.a, .int .i64 x.2.k.b, .int .i64 x.2.k.n, .int .i64 x.2.t, .int .i64 x.2.d, .slice xa x.2.l.length xc]) (t := 58) (fr := (0, 0)) (alloc_last _ _)) (by simp [Value.oneCell']) HR1.out.1 HR1.out.2 (by rw [World.size_alloc]; exact Nat.le_succ_of_le HS6.out) ?_; intro v9 w9 hown9 hgrow9 _)
            clear x0 x1 x2 x3 x4 x5 x6 k0 k1 k2 k3
            have HX9 := Lib.hid (show w9.ownsRow N2 58 7 v9 (nx ++ [x]).length (flatC gC (nx ++ [x])) by simp only [List.length_append, List.length_singleton, flatC_push, HGX.out]; exact hown9)
            have HB9 := Lib.hid (show Below N2 w5 w9 from (HB6.out.alloc HS6.out _).grown hgrow9 (by rw [World.size_alloc]; exact Nat.le_succ_of_le HS6.out) (fun z hz => (HZX.out z hz).1))
            have HE9 := Lib.hid (show (nx ++ [x]) ++ insG c (o.drop (m + 1)) true = insG c o false by rw [← HE.out, HET.out]; simp)
            clear hown9 hgrow9
            have hmt9 := HMT.out
            go_wp2_with fail
            go_roundw
            case rel => exact ⟨m + 1, nx ++ [x], true, by omega, rfl, by go_num, HX9, HB9, HE9⟩
            case measure => have := HMT.out; simp [intOf]; omega
          · rw [decide_eq_false he] at heq
            cases dn with
            | true =>
              have HET := Lib.hid (insG_skip (c := c) (r := o.drop (m + 1)) (d := true) (x := x) (Or.inl rfl))
              rw [Bool.true_or] at HET
              clear he
              have x0 : w6.cell? ⟨XB, 0, none⟩ = some (.int .u8 x.2.k.kind) := cell_of_blk HXX.out rfl
              have x1 : w6.cell? ⟨XB, 1, none⟩ = some (.int .i64 x.2.k.a) := cell_of_blk HXX.out rfl
              have x2 : w6.cell? ⟨XB, 2, none⟩ = some (.int .i64 x.2.k.b) := cell_of_blk HXX.out rfl
              have x3 : w6.cell? ⟨XB, 3, none⟩ = some (.int .i64 x.2.k.n) := cell_of_blk HXX.out rfl
              have x4 : w6.cell? ⟨XB, 4, none⟩ = some (.int .i64 x.2.t) := cell_of_blk HXX.out rfl
              have x5 : w6.cell? ⟨XB, 5, none⟩ = some (.int .i64 x.2.d) := cell_of_blk HXX.out rfl
              have x6 : w6.cell? ⟨XB, 6, none⟩ = some (.slice xa x.2.l.length xc) := cell_of_blk HXX.out rfl
              have k0 : w6.cell? ⟨CB, 0, none⟩ = some (.int .u8 c.2.k.kind) := cell_of_blk HC6.out rfl
              have k1 : w6.cell? ⟨CB, 1, none⟩ = some (.int .i64 c.2.k.a) := cell_of_blk HC6.out rfl
              have k2 : w6.cell? ⟨CB, 2, none⟩ = some (.int .i64 c.2.k.b) := cell_of_blk HC6.out rfl
              have k3 : w6.cell? ⟨CB, 3, none⟩ = some (.int .i64 c.2.k.n) := cell_of_blk HC6.out rfl
              go_wp2_with (at_builtin; refine wpList_append_own _ rfl _ _ 23 rfl N2 58 i0 _ 7 72 Tryz.underlying23 hi0 hz0 hz1 hz2 rfl (by omega) (.slice na nx.length nc) nx.length (flatC gC nx) rfl (owns_keep HX6.out (fun z hz => Below.heap_alloc w6 _ _ (HX6.out.lt z hz).2)) ⟨w6.heap.size, 0, none⟩ 1 1 [.int .u8 x.2.k.kind, .int .i64 x.2.k.a, .int .i64 x.2.k.b, .int .i64 x.2.k.n, .int .i64 x.2.t, .int .i64 x.2.d, .slice xa x.2.l.length xc] rfl rfl (World.news_of_block (cs := #[.int .u8 x.2.k.kind, .int .i64 x.2.k.a, .int .i64 x.2.k.b, .int .i64 x.2.k.n, .int .i64 x.2.t, .int .i64 x.2.d, .slice xa x.2.l.length xc]) (t := 58) (fr := (0, 0)) (alloc_last _ _)) (by simp [Value.oneCell']) HR1.out.1 HR1.out.2 (by rw [World.size_alloc]; exact Nat.le_succ_of_le HS6.out) ?_; intro v9 w9 hown9 hgrow9 _)
              clear x0 x1 x2 x3 x4 x5 x6 k0 k1 k2 k3
              have HX9 := Lib.hid (show w9.ownsRow N2 58 7 v9 (nx ++ [x]).length (flatC gC (nx ++ [x])) by simp only [List.length_append, List.length_singleton, flatC_push, HGX.out]; exact hown9)
              have HB9 := Lib.hid (show Below N2 w5 w9 from (HB6.out.alloc HS6.out _).grown hgrow9 (by rw [World.size_alloc]; exact Nat.le_succ_of_le HS6.out) (fun z hz => (HZX.out z hz).1))
              have HE9 := Lib.hid (show (nx ++ [x]) ++ insG c (o.drop (m + 1)) true = insG c o false by rw [← HE.out, HET.out]; simp)
              clear hown9 hgrow9
              have hmt9 := HMT.out
              go_wp2_with fail
              go_roundw
              case rel => exact ⟨m + 1, nx ++ [x], true, by omega, rfl, by go_num, HX9, HB9, HE9⟩
              case measure => have := HMT.out; simp [intOf]; omega
            | false =>
              have x0 : w6.cell? ⟨XB, 0, none⟩ = some (.int .u8 x.2.k.kind) := cell_of_blk HXX.out rfl
              have x1 : w6.cell? ⟨XB, 1, none⟩ = some (.int .i64 x.2.k.a) := cell_of_blk HXX.out rfl
              have x2 : w6.cell? ⟨XB, 2, none⟩ = some (.int .i64 x.2.k.b) := cell_of_blk HXX.out rfl
              have x3 : w6.cell? ⟨XB, 3, none⟩ = some (.int .i64 x.2.k.n) := cell_of_blk HXX.out rfl
              have x4 : w6.cell? ⟨XB, 4, none⟩ = some (.int .i64 x.2.t) := cell_of_blk HXX.out rfl
              have x5 : w6.cell? ⟨XB, 5, none⟩ = some (.int .i64 x.2.d) := cell_of_blk HXX.out rfl
              have x6 : w6.cell? ⟨XB, 6, none⟩ = some (.slice xa x.2.l.length xc) := cell_of_blk HXX.out rfl
              have k0 : w6.cell? ⟨CB, 0, none⟩ = some (.int .u8 c.2.k.kind) := cell_of_blk HC6.out rfl
              have k1 : w6.cell? ⟨CB, 1, none⟩ = some (.int .i64 c.2.k.a) := cell_of_blk HC6.out rfl
              have k2 : w6.cell? ⟨CB, 2, none⟩ = some (.int .i64 c.2.k.b) := cell_of_blk HC6.out rfl
              have k3 : w6.cell? ⟨CB, 3, none⟩ = some (.int .i64 c.2.k.n) := cell_of_blk HC6.out rfl
              have HHE := Lib.hid he
              clear he
              go_wp2_with fail
              refine (HL7.out _).mono ?_
              rintro e w7 ⟨rfl, hl7⟩
              clear x0 x1 x2 x3 x4 x5 x6 k0 k1 k2 k3
              have HM7 := Lib.hid hl7.1
              clear hl7
              have HXX7 := Lib.hid ((HM7.out.block (blk_lt HXX.out)).trans HXX.out)
              have HC7 := Lib.hid ((HM7.out.block (blk_lt HC6.out)).trans HC6.out)
              have HX7 := Lib.hid (owns_keep HX6.out (fun z hz => HM7.out.block (HX6.out.lt z hz).2))
              have HS7 := Lib.hid (Nat.le_trans HS6.out HM7.out.size)
              have HB7 := Lib.hid (HB6.out.trans (HM7.out.below.mono HS6.out))
              by_cases hq : ltK c.2.k x.2.k
              · have HET := Lib.hid (insG_put (r := o.drop (m + 1)) HHE.out hq)
                have hqb : ltKb c.2.k x.2.k = true := (ltKb_iff _ _).2 hq
                rw [hqb]
                clear hq hqb
                have x0 : w7.cell? ⟨XB, 0, none⟩ = some (.int .u8 x.2.k.kind) := cell_of_blk HXX7.out rfl
                have x1 : w7.cell? ⟨XB, 1, none⟩ = some (.int .i64 x.2.k.a) := cell_of_blk HXX7.out rfl
                have x2 : w7.cell? ⟨XB, 2, none⟩ = some (.int .i64 x.2.k.b) := cell_of_blk HXX7.out rfl
                have x3 : w7.cell? ⟨XB, 3, none⟩ = some (.int .i64 x.2.k.n) := cell_of_blk HXX7.out rfl
                have x4 : w7.cell? ⟨XB, 4, none⟩ = some (.int .i64 x.2.t) := cell_of_blk HXX7.out rfl
                have x5 : w7.cell? ⟨XB, 5, none⟩ = some (.int .i64 x.2.d) := cell_of_blk HXX7.out rfl
                have x6 : w7.cell? ⟨XB, 6, none⟩ = some (.slice xa x.2.l.length xc) := cell_of_blk HXX7.out rfl
                have k0 : w7.cell? ⟨CB, 0, none⟩ = some (.int .u8 c.2.k.kind) := cell_of_blk HC7.out rfl
                have k1 : w7.cell? ⟨CB, 1, none⟩ = some (.int .i64 c.2.k.a) := cell_of_blk HC7.out rfl
                have k2 : w7.cell? ⟨CB, 2, none⟩ = some (.int .i64 c.2.k.b) := cell_of_blk HC7.out rfl
                have k3 : w7.cell? ⟨CB, 3, none⟩ = some (.int .i64 c.2.k.n) := cell_of_blk HC7.out rfl
                have k4 : w7.cell? ⟨CB, 4, none⟩ = some (.int .i64 c.2.t) := cell_of_blk HC7.out rfl
                have k5 : w7.cell? ⟨CB, 5, none⟩ = some (.int .i64 c.2.d) := cell_of_blk HC7.out rfl
                have k6 : w7.cell? ⟨CB, 6, none⟩ = some (.slice ca c.2.l.length cc) := cell_of_blk HC7.out rfl
                go_upto_region 14 with (at_builtin; refine wpList_append_own _ rfl _ _ 23 rfl N2 58 i0 _ 7 72 Tryz.underlying23 hi0 hz0 hz1 hz2 rfl (by omega) (.slice na nx.length nc) nx.length (flatC gC nx) rfl (owns_keep HX7.out (fun z hz => Below.heap_alloc w7 _ _ (HX7.out.lt z hz).2)) ⟨w7.heap.size, 0, none⟩ 1 1 [.int .u8 c.2.k.kind, .int .i64 c.2.k.a, .int .i64 c.2.k.b, .int .i64 c.2.k.n, .int .i64 c.2.t, .int .i64 c.2.d, .slice ca c.2.l.length cc] rfl rfl (World.news_of_block (cs := #[.int .u8 c.2.k.kind, .int .i64 c.2.k.a, .int .i64 c.2.k.b, .int .i64 c.2.k.n, .int .i64 c.2.t, .int .i64 c.2.d, .slice ca c.2.l.length cc]) (t := 58) (fr := (0, 0)) (alloc_last _ _)) (by simp [Value.oneCell']) HR1.out.1 HR1.out.2 (by rw [World.size_alloc]; exact Nat.le_succ_of_le HS7.out) ?_; intro v8 w8 hown8 hgrow8 _)
                clear x0 x1 x2 x3 x4 x5 x6 k0 k1 k2 k3 k4 k5 k6
                obtain ⟨g8, cp8, rfl, _, _⟩ := hown8.form (by omega)
                have HX8 := Lib.hid hown8
                have HXX8 := Lib.hid ((hgrow8.block XB (by rw [World.size_alloc]; exact Nat.lt_succ_of_lt (blk_lt HXX7.out)) (fun e => by have := HZX.out XB e.symm; omega)).trans ((Below.heap_alloc w7 _ _ (blk_lt HXX7.out)).trans HXX7.out))
                have HB8 := Lib.hid (show Below N2 w5 w8 from (HB7.out.alloc HS7.out _).grown hgrow8 (by rw [World.size_alloc]; exact Nat.le_succ_of_le HS7.out) (fun z hz => (HZX.out z hz).1))
                have HS8 := Lib.hid (show N2 ≤ w8.heap.size from Nat.le_trans (by rw [World.size_alloc]; exact Nat.le_succ_of_le HS7.out) hgrow8.size)
                have HZ8 := Lib.hid (fun z hz => (hown8.lt z hz).1)
                clear hown8 hgrow8
                have x0 : w8.cell? ⟨XB, 0, none⟩ = some (.int .u8 x.2.k.kind) := cell_of_blk HXX8.out rfl
                have x1 : w8.cell? ⟨XB, 1, none⟩ = some (.int .i64 x.2.k.a) := cell_of_blk HXX8.out rfl
                have x2 : w8.cell? ⟨XB, 2, none⟩ = some (.int .i64 x.2.k.b) := cell_of_blk HXX8.out rfl
                have x3 : w8.cell? ⟨XB, 3, none⟩ = some (.int .i64 x.2.k.n) := cell_of_blk HXX8.out rfl
                have x4 : w8.cell? ⟨XB, 4, none⟩ = some (.int .i64 x.2.t) := cell_of_blk HXX8.out rfl
                have x5 : w8.cell? ⟨XB, 5, none⟩ = some (.int .i64 x.2.d) := cell_of_blk HXX8.out rfl
                have x6 : w8.cell? ⟨XB, 6, none⟩ = some (.slice xa x.2.l.length xc) := cell_of_blk HXX8.out rfl
                go_wp2_with (at_builtin; refine wpList_append_own _ rfl _ _ 23 rfl N2 58 i0 _ 7 72 Tryz.underlying23 hi0 hz0 hz1 hz2 rfl (by omega) (.slice (some ⟨g8, 0, none⟩) (nx.length + 1) cp8) (nx.length + 1) (flatC gC nx ++ [.int .u8 c.2.k.kind, .int .i64 c.2.k.a, .int .i64 c.2.k.b, .int .i64 c.2.k.n, .int .i64 c.2.t, .int .i64 c.2.d, .slice ca c.2.l.length cc]) rfl (owns_keep HX8.out (fun z hz => Below.heap_alloc w8 _ _ (HX8.out.lt z hz).2)) ⟨w8.heap.size, 0, none⟩ 1 1 [.int .u8 x.2.k.kind, .int .i64 x.2.k.a, .int .i64 x.2.k.b, .int .i64 x.2.k.n, .int .i64 x.2.t, .int .i64 x.2.d, .slice xa x.2.l.length xc] rfl rfl (World.news_of_block (cs := #[.int .u8 x.2.k.kind, .int .i64 x.2.k.a, .int .i64 x.2.k.b, .int .i64 x.2.k.n, .int .i64 x.2.t, .int .i64 x.2.d, .slice xa x.2.l.length xc]) (t := 58) (fr := (0, 0)) (alloc_last _ _)) (by simp [Value.oneCell']) HR2.out.1 HR2.out.2 (by rw [World.size_alloc]; exact Nat.le_succ_of_le HS8.out) ?_; intro v9 w9 hown9 hgrow9 _)
                clear x0 x1 x2 x3 x4 x5 x6
                have HX9 := Lib.hid (show w9.ownsRow N2 58 7 v9 (nx ++ [c] ++ [x]).length (flatC gC (nx ++ [c] ++ [x])) by simp only [List.length_append, List.length_singleton, flatC_push, HGX.out, HGC.out]; exact hown9)
                have HB9 := Lib.hid (show Below N2 w5 w9 from (HB8.out.alloc HS8.out _).grown hgrow9 (by rw [World.size_alloc]; exact Nat.le_succ_of_le HS8.out) HZ8.out)
                have HE9 := Lib.hid (show (nx ++ [c] ++ [x]) ++ insG c (o.drop (m + 1)) true = insG c o false by rw [← HE.out, HET.out]; simp)
                clear hown9 hgrow9
                have hmt9 := HMT.out
                go_wp2_with fail
                go_roundw
                case rel => exact ⟨m + 1, nx ++ [c] ++ [x], true, by omega, rfl, by go_num, HX9, HB9, HE9⟩
                case measure => have := HMT.out; simp [intOf]; omega
              · have hqb : ltKb c.2.k x.2.k = false := by rw [← Bool.not_eq_true]; exact fun e => hq ((ltKb_iff _ _).1 e)
                have HET := Lib.hid (insG_skip (c := c) (r := o.drop (m + 1)) (d := false) (x := x) (Or.inr hqb))
                rw [decide_eq_false HHE.out, Bool.or_false] at HET
                rw [hqb]
                clear hq hqb
                have x0 : w7.cell? ⟨XB, 0, none⟩ = some (.int .u8 x.2.k.kind) := cell_of_blk HXX7.out rfl
                have x1 : w7.cell? ⟨XB, 1, none⟩ = some (.int .i64 x.2.k.a) := cell_of_blk HXX7.out rfl
                have x2 : w7.cell? ⟨XB, 2, none⟩ = some (.int .i64 x.2.k.b) := cell_of_blk HXX7.out rfl
                have x3 : w7.cell? ⟨XB, 3, none⟩ = some (.int .i64 x.2.k.n) := cell_of_blk HXX7.out rfl
                have x4 : w7.cell? ⟨XB, 4, none⟩ = some (.int .i64 x.2.t) := cell_of_blk HXX7.out rfl
                have x5 : w7.cell? ⟨XB, 5, none⟩ = some (.int .i64 x.2.d) := cell_of_blk HXX7.out rfl
                have x6 : w7.cell? ⟨XB, 6, none⟩ = some (.slice xa x.2.l.length xc) := cell_of_blk HXX7.out rfl
                have k0 : w7.cell? ⟨CB, 0, none⟩ = some (.int .u8 c.2.k.kind) := cell_of_blk HC7.out rfl
                have k1 : w7.cell? ⟨CB, 1, none⟩ = some (.int .i64 c.2.k.a) := cell_of_blk HC7.out rfl
                have k2 : w7.cell? ⟨CB, 2, none⟩ = some (.int .i64 c.2.k.b) := cell_of_blk HC7.out rfl
                have k3 : w7.cell? ⟨CB, 3, none⟩ = some (.int .i64 c.2.k.n) := cell_of_blk HC7.out rfl
                go_wp2_with (at_builtin; refine wpList_append_own _ rfl _ _ 23 rfl N2 58 i0 _ 7 72 Tryz.underlying23 hi0 hz0 hz1 hz2 rfl (by omega) (.slice na nx.length nc) nx.length (flatC gC nx) rfl (owns_keep HX7.out (fun z hz => Below.heap_alloc w7 _ _ (HX7.out.lt z hz).2)) ⟨w7.heap.size, 0, none⟩ 1 1 [.int .u8 x.2.k.kind, .int .i64 x.2.k.a, .int .i64 x.2.k.b, .int .i64 x.2.k.n, .int .i64 x.2.t, .int .i64 x.2.d, .slice xa x.2.l.length xc] rfl rfl (World.news_of_block (cs := #[.int .u8 x.2.k.kind, .int .i64 x.2.k.a, .int .i64 x.2.k.b, .int .i64 x.2.k.n, .int .i64 x.2.t, .int .i64 x.2.d, .slice xa x.2.l.length xc]) (t := 58) (fr := (0, 0)) (alloc_last _ _)) (by simp [Value.oneCell']) HR1.out.1 HR1.out.2 (by rw [World.size_alloc]; exact Nat.le_succ_of_le HS7.out) ?_; intro v9 w9 hown9 hgrow9 _)
                clear x0 x1 x2 x3 x4 x5 x6 k0 k1 k2 k3
                have HX9 := Lib.hid (show w9.ownsRow N2 58 7 v9 (nx ++ [x]).length (flatC gC (nx ++ [x])) by simp only [List.length_append, List.length_singleton, flatC_push, HGX.out]; exact hown9)
                have HB9 := Lib.hid (show Below N2 w5 w9 from (HB7.out.alloc HS7.out _).grown hgrow9 (by rw [World.size_alloc]; exact Nat.le_succ_of_le HS7.out) (fun z hz => (HZX.out z hz).1))
                have HE9 := Lib.hid (show (nx ++ [x]) ++ insG c (o.drop (m + 1)) false = insG c o false by rw [← HE.out, HET.out]; simp)
                clear hown9 hgrow9
                have hmt9 := HMT.out
                go_wp2_with fail
                go_roundw
                case rel => exact ⟨m + 1, nx ++ [x], false, by omega, rfl, by go_num, HX9, HB9, HE9⟩
                case measure => have := HMT.out; simp [intOf]; omega
        · obtain rfl : m = o.length := by omega
          rw [List.drop_of_length_le (Nat.le_refl _)] at HE
          have hlt9 := HLT.out
          have HMO := Lib.hid (show More w wx from more_trans HMW.out (more_trans HM5.out HMX.out))
          have HN2N := Lib.hid (show N ≤ N2 by rw [HN2.out]; have := HNO.out; have := HM5.out.size; omega)
          have HBO := Lib.hid (show Below N w wx by rw [HN.out]; exact HMO.out.below)
          have HI1 := Lib.hid (insG_asc c o HA.out)
          have HI2 := Lib.hid (show ∀ p ∈ insG c o false, p ∈ l from fun p hp => by
              rcases insG_mem c o false p hp with h | rfl
              · exact HM.out p h
              · exact HCM.out)
          have HI3 := Lib.hid (show (insG c o false).length ≤ j + 1 by have := insG_len c o false; have := HOL.out; omega)
          cases dn with
          | true =>
            have HEE := Lib.hid (show nx = insG c o false by rw [← HE.out, insG_true]; simp)
            rw [← HEE.out] at HI1 HI2 HI3
            go_wp2_with fail
            go_roundw
            case rel => exact ⟨j + 1, nx, by omega, by go_num, Lib.hid (owns_base HX.out HN2N.out), HBO, HI1, HI2, HI3⟩
            case measure => simp [intOf]; omega
          | false =>
            have HEE := Lib.hid (show nx ++ [c] = insG c o false by rw [← HE.out]; simp [insG])
            rw [← HEE.out] at HI1 HI2 HI3
            have HR1 := Lib.hid (room72 (n := nx.length + 1) (Nat.le_trans (Nat.succ_le_succ HNL.out) (by decide)))
            have k0 : wx.cell? ⟨CB, 0, none⟩ = some (.int .u8 c.2.k.kind) := cell_of_blk HCX.out rfl
            have k1 : wx.cell? ⟨CB, 1, none⟩ = some (.int .i64 c.2.k.a) := cell_of_blk HCX.out rfl
            have k2 : wx.cell? ⟨CB, 2, none⟩ = some (.int .i64 c.2.k.b) := cell_of_blk HCX.out rfl
            have k3 : wx.cell? ⟨CB, 3, none⟩ = some (.int .i64 c.2.k.n) := cell_of_blk HCX.out rfl
            have k4 : wx.cell? ⟨CB, 4, none⟩ = some (.int .i64 c.2.t) := cell_of_blk HCX.out rfl
            have k5 : wx.cell? ⟨CB, 5, none⟩ = some (.int .i64 c.2.d) := cell_of_blk HCX.out rfl
            have k6 : wx.cell? ⟨CB, 6, none⟩ = some (.slice ca c.2.l.length cc) := cell_of_blk HCX.out rfl
            go_wp2_with (at_builtin; refine wpList_append_own _ rfl _ _ 23 rfl N2 58 i0 _ 7 72 Tryz.underlying23 hi0 hz0 hz1 hz2 rfl (by omega) (.slice na nx.length nc) nx.length (flatC gC nx) rfl (owns_keep HX.out (fun z hz => Below.heap_alloc wx _ _ (HX.out.lt z hz).2)) ⟨wx.heap.size, 0, none⟩ 1 1 [.int .u8 c.2.k.kind, .int .i64 c.2.k.a, .int .i64 c.2.k.b, .int .i64 c.2.k.n, .int .i64 c.2.t, .int .i64 c.2.d, .slice ca c.2.l.length cc] rfl rfl (World.news_of_block (cs := #[.int .u8 c.2.k.kind, .int .i64 c.2.k.a, .int .i64 c.2.k.b, .int .i64 c.2.k.n, .int .i64 c.2.t, .int .i64 c.2.d, .slice ca c.2.l.length cc]) (t := 58) (fr := (0, 0)) (alloc_last _ _)) (by simp [Value.oneCell']) HR1.out.1 HR1.out.2 (by rw [World.size_alloc]; exact Nat.le_succ_of_le HNX.out) ?_; intro v9 w9 hown9 hgrow9 _)
            clear k0 k1 k2 k3 k4 k5 k6
            have HX9 := Lib.hid (show w9.ownsRow N 58 7 v9 (nx ++ [c]).length (flatC gC (nx ++ [c])) by simp only [List.length_append, List.length_singleton, flatC_push, HGC.out]; exact owns_base hown9 HN2N.out)
            have HB9 := Lib.hid (show Below N w w9 from (HBO.out.alloc (Nat.le_trans HN2N.out HNX.out) _).grown hgrow9 (by rw [World.size_alloc]; exact Nat.le_succ_of_le (Nat.le_trans HN2N.out HNX.out)) (fun z hz => Nat.le_trans HN2N.out (HX.out.lt z hz).1))
            clear hown9 hgrow9
            go_wp2_with fail
            go_roundw
            case rel => exact ⟨j + 1, nx ++ [c], by omega, by go_num, HX9, HB9, HI1, HI2, HI3⟩
            case measure => simp [intOf]; omega
    · obtain rfl : j = l.length := by omega
      go_wp2_with fail
      go_ret
      exact ⟨⟨_, o, rfl, HO.out, HA.out, HM.out, HOL.out⟩, HB.out⟩
end Go.Proofs.YtemeppfikpafbaaGreatDoor

/- Choices of all kinds: within (152), timed (151), CheckKey (150), Check (99). -/
namespace Go.Proofs.YtemeppfikpafbaaGreatDoor
open Go.RowKit
def keyOkb (k : K4) : Bool := decide (1 ≤ k.kind) && decide (k.kind ≤ 9) && decide (0 ≤ k.a ∧ k.a ≤ 7) && decide (0 ≤ k.b ∧ k.b ≤ topB k.kind) && decide (0 ≤ k.n ∧ k.n ≤ 65535)
theorem keyOkb_iff (k : K4) : keyOkb k = true ↔ KeyOk k := by
  unfold keyOkb
  simp only [Bool.and_eq_true, decide_eq_true_eq]
  exact ⟨fun ⟨⟨⟨⟨h1, h2⟩, h3⟩, h4⟩, h5⟩ => ⟨h1, h2, h3.1, h3.2, h4.1, h4.2, h5.1, h5.2⟩, fun h => ⟨⟨⟨⟨h.k0, h.k1⟩, h.a0, h.a1⟩, h.b0, h.b1⟩, h.n0, h.n1⟩⟩
def topL (kd : Int) : Int := if kd = 1 then 4 else 0
def cgOkb (x : Cg) : Bool := keyOkb x.k && (decide (0 ≤ x.t ∧ x.t ≤ topT x.k.kind) && (decide (lowD x.k.kind ≤ x.d ∧ x.d ≤ topD x.k.kind) && decide ((x.l.length : Int) ≤ topL x.k.kind)))
theorem cgOkb_iff (x : Cg) : cgOkb x = true ↔ CgOk x := by
  unfold cgOkb
  simp only [Bool.and_eq_true, decide_eq_true_eq, keyOkb_iff]
  have hl : (x.l.length : Int) ≤ topL x.k.kind ↔ x.l.length ≤ (if x.k.kind = 1 then 4 else 0) := by
    unfold topL; split <;> omega
  rw [hl]
  exact ⟨fun ⟨h1, h2, h3, h4⟩ => ⟨h1, h2.1, h2.2, h3.1, h3.2, h4⟩, fun h => ⟨h.key, ⟨h.t0, h.t1⟩, ⟨h.d0, h.d1⟩, h.l⟩⟩
theorem within_gen (v lo hi : Int) (w : World) : Calls Tryz.prog 75 #[.int .i64 v, .int .i64 lo, .int .i64 hi] w fun e w' => e = .returned (.bool (decide (lo ≤ v ∧ v ≤ hi))) ∧ w' = w := by
  by_cases h0 : lo ≤ v
  · by_cases h1 : v ≤ hi
    · rw [decide_eq_true (And.intro h0 h1)]
      go_enter Tryz.func75, Tryz.ntmps75
      go_wp2_with fail
      go_ret
      exact ⟨rfl, rfl⟩
    · rw [decide_eq_false (fun h => h1 h.2)]
      have h2 : decide (v ≤ hi) = false := decide_eq_false h1
      clear h1
      go_enter Tryz.func75, Tryz.ntmps75
      go_wp2_with fail
      go_ret
      exact ⟨rfl, rfl⟩
  · rw [decide_eq_false (fun h => h0 h.1)]
    have h2 : decide (lo ≤ v) = false := decide_eq_false h0
    clear h0
    go_enter Tryz.func75, Tryz.ntmps75
    go_wp2_with fail
    go_ret
    exact ⟨rfl, rfl⟩
theorem timed_gen (k : Int) (w : World) (h0 : 1 ≤ k) (h9 : k ≤ 9) : Calls Tryz.prog 74 #[.int .u8 k] w fun e w' => e = .returned (.bool (decide (k ≤ 4))) ∧ w' = w := by
  have hk : k = 1 ∨ k = 2 ∨ k = 3 ∨ k = 4 ∨ k = 5 ∨ k = 6 ∨ k = 7 ∨ k = 8 ∨ k = 9 := by omega
  clear h0 h9
  rcases hk with rfl | rfl | rfl | rfl | rfl | rfl | rfl | rfl | rfl
  all_goals
    go_enter Tryz.func74, Tryz.ntmps74
    go_wp2_with fail
    go_ret
    exact ⟨rfl, rfl⟩
set_option maxRecDepth 100000 in
set_option maxHeartbeats 4000000 in
theorem checkKey_gen (k : K4) (w : World) (h0 : 0 ≤ k.kind) (h1 : k.kind ≤ 255) : Calls Tryz.prog 73 #[.agg #[.int .u8 k.kind, .int .i64 k.a, .int .i64 k.b, .int .i64 k.n]] w fun e w' => e = .returned (.int .i64 (if keyOkb k then 0 else 1)) ∧ Lay w w' := by
  obtain ⟨kd, a, b, n⟩ := k
  dsimp only at *
  have HWI := Lib.hid (fun (v lo hi : Int) (W : World) => within_gen v lo hi W)
  have hb := alloc_last w (.cells #[.int .u8 kd, .int .i64 a, .int .i64 b, .int .i64 n] 53)
  have HM := Lib.hid (Lay.alloc w (.cells #[.int .u8 kd, .int .i64 a, .int .i64 b, .int .i64 n] 53))
  by_cases hlo : kd < 1
  · have hz : kd = 0 := by omega
    subst hz
    have HE := Lib.hid (show keyOkb ⟨0, a, b, n⟩ = false by simp [keyOkb])
    rw [HE.out]
    go_enter Tryz.func73, Tryz.ntmps73
    go_upto_region 1 with (fail)
    generalize w.alloc (.cells #[.int .u8 0, .int .i64 a, .int .i64 b, .int .i64 n] 53) = w1 at *
    have c0 : w1.cell? ⟨w.heap.size, 0, none⟩ = some (.int .u8 0) := cell_of_blk hb rfl
    have hlt := cell_lt c0
    clear hb
    go_wp2_with fail
    go_ret
    exact ⟨rfl, HM.out⟩
  · by_cases hhi : 9 < kd
    · have HE := Lib.hid (show keyOkb ⟨kd, a, b, n⟩ = false by
        have h2 : decide (kd ≤ 9) = false := decide_eq_false (by omega)
        simp [keyOkb, h2])
      rw [HE.out]
      have hd1 : decide (kd < 1) = false := decide_eq_false hlo
      go_enter Tryz.func73, Tryz.ntmps73
      go_upto_region 1 with (fail)
      generalize w.alloc (.cells #[.int .u8 kd, .int .i64 a, .int .i64 b, .int .i64 n] 53) = w1 at *
      have c0 : w1.cell? ⟨w.heap.size, 0, none⟩ = some (.int .u8 kd) := cell_of_blk hb rfl
      have hlt := cell_lt c0
      clear hb
      go_wp2_with fail
      go_ret
      exact ⟨rfl, HM.out⟩
    · have hk : kd = 1 ∨ kd = 2 ∨ kd = 3 ∨ kd = 4 ∨ kd = 5 ∨ kd = 6 ∨ kd = 7 ∨ kd = 8 ∨ kd = 9 := by omega
      have HE : ∀ z, kd = z → (1 ≤ z ∧ z ≤ 9) → keyOkb ⟨kd, a, b, n⟩ = (decide (0 ≤ a ∧ a ≤ 7) && decide (0 ≤ b ∧ b ≤ topB z) && decide (0 ≤ n ∧ n ≤ 65535)) := by
        intro z hz hzz
        subst hz
        unfold keyOkb
        dsimp only
        rw [decide_eq_true hzz.1, decide_eq_true hzz.2, Bool.true_and, Bool.true_and]
      obtain ⟨E, HEE⟩ : ∃ E : Int, Hid (E = if keyOkb ⟨kd, a, b, n⟩ = true then 0 else 1) := ⟨_, Lib.hid rfl⟩
      rw [← HEE.out]
      rcases hk with rfl | rfl | rfl | rfl | rfl | rfl | rfl | rfl | rfl
      all_goals
        have HE2 := Lib.hid (HE _ rfl (by decide))
        clear HE hlo hhi h0 h1
        rw [HE2.out] at HEE
        clear HE2
        simp (config := { decide := true }) only [topB, if_true, if_false] at HEE
        go_enter Tryz.func73, Tryz.ntmps73
        go_upto_region 1 with (fail)
        generalize hw1 : w.alloc _ = w1 at *
        clear hw1
        have c0 := cell_of_blk (j := 0) hb rfl
        have c1 : w1.cell? ⟨w.heap.size, 1, none⟩ = some (.int .i64 a) := cell_of_blk hb rfl
        have c2 : w1.cell? ⟨w.heap.size, 2, none⟩ = some (.int .i64 b) := cell_of_blk hb rfl
        have c3 : w1.cell? ⟨w.heap.size, 3, none⟩ = some (.int .i64 n) := cell_of_blk hb rfl
        have hlt := cell_lt c1
        clear hb
        go_wp2_with fail
        refine (HWI.out _ _ _ _).mono ?_
        rintro e wA ⟨rfl, hwA⟩
        have hwA := hwA.symm
        subst hwA
        obtain ⟨q1, HQ1⟩ : ∃ q1, Hid (decide (0 ≤ a ∧ a ≤ 7) = q1) := ⟨_, Lib.hid rfl⟩
        rw [HQ1.out]
        rw [HQ1.out] at HEE
        cases q1 with
        | false =>
          go_wp2_with fail
          go_ret
          exact ⟨by rw [HEE.out]; rfl, HM.out⟩
        | true =>
          go_wp2_with fail
          refine (HWI.out _ _ _ _).mono ?_
          rintro e wA ⟨rfl, hwA⟩
          have hwA := hwA.symm
          subst hwA
          generalize hq2 : decide (0 ≤ b ∧ b ≤ _) = q2 at *
          clear hq2
          cases q2 with
          | false =>
            go_wp2_with fail
            go_ret
            exact ⟨by rw [HEE.out]; rfl, HM.out⟩
          | true =>
            go_wp2_with fail
            refine (HWI.out _ _ _ _).mono ?_
            rintro e wA ⟨rfl, hwA⟩
            have hwA := hwA.symm
            subst hwA
            generalize hq3 : decide (0 ≤ n ∧ n ≤ 65535) = q3 at *
            clear hq3
            cases q3 with
            | false =>
              go_wp2_with fail
              go_ret
              exact ⟨by rw [HEE.out]; rfl, HM.out⟩
            | true =>
              go_wp2_with fail
              go_ret
              exact ⟨by rw [HEE.out]; rfl, HM.out⟩
set_option maxRecDepth 100000 in
set_option maxHeartbeats 8000000 in
theorem check99_gen (p : GV) (w : World) (h0 : 0 ≤ p.2.k.kind) (h1 : p.2.k.kind ≤ 255) (hsh : ∃ a c, p.1 = .slice a p.2.l.length c) (hl : p.2.l.length ≤ maxLen) : Calls Tryz.prog 43 #[gA p] w fun e w' => e = .returned (.int .i64 (if cgOkb p.2 then 0 else 1)) ∧ Lay w w' := by
  obtain ⟨v, ⟨⟨kd, a, b, n⟩, t, d, l⟩⟩ := p
  obtain ⟨sa, sc, hv⟩ := hsh
  unfold gA
  dsimp only at *
  subst hv
  unfold maxLen at hl
  have HCK := Lib.hid (fun W => checkKey_gen ⟨kd, a, b, n⟩ W h0 h1)
  obtain ⟨E, HEE⟩ : ∃ E : Int, Hid (E = if cgOkb ⟨⟨kd, a, b, n⟩, t, d, l⟩ = true then 0 else 1) := ⟨_, Lib.hid rfl⟩
  rw [← HEE.out]
  have HWI := Lib.hid (fun (v lo hi : Int) (W : World) => within_gen v lo hi W)
  unfold cgOkb at HEE
  dsimp only at *
  have hb := alloc_last w (.cells #[.int .u8 kd, .int .i64 a, .int .i64 b, .int .i64 n, .int .i64 t, .int .i64 d, .slice sa l.length sc] 58)
  have HM := Lib.hid (Lay.alloc w (.cells #[.int .u8 kd, .int .i64 a, .int .i64 b, .int .i64 n, .int .i64 t, .int .i64 d, .slice sa l.length sc] 58))
  obtain ⟨q0, HQ0⟩ : ∃ q0, Hid (keyOkb ⟨kd, a, b, n⟩ = q0) := ⟨_, Lib.hid rfl⟩
  rw [HQ0.out] at HCK HEE
  generalize hln : l.length = ln at *
  clear hln
  go_enter Tryz.func43, Tryz.ntmps43
  go_upto_region 1 with (fail)
  generalize w.alloc (.cells #[.int .u8 kd, .int .i64 a, .int .i64 b, .int .i64 n, .int .i64 t, .int .i64 d, .slice sa ln sc] 58) = w1 at *
  have c0 : w1.cell? ⟨w.heap.size, 0, none⟩ = some (.int .u8 kd) := cell_of_blk hb rfl
  have c1 : w1.cell? ⟨w.heap.size, 1, none⟩ = some (.int .i64 a) := cell_of_blk hb rfl
  have c2 : w1.cell? ⟨w.heap.size, 2, none⟩ = some (.int .i64 b) := cell_of_blk hb rfl
  have c3 : w1.cell? ⟨w.heap.size, 3, none⟩ = some (.int .i64 n) := cell_of_blk hb rfl
  have hlt := cell_lt c0
  have HB := Lib.hid hb
  clear hb
  go_wp2_with fail
  refine (HCK.out _).mono ?_
  rintro e w2 ⟨rfl, hl2⟩
  have HB2 := Lib.hid ((hl2.1.block (blk_lt HB.out)).trans HB.out)
  have HM2 := Lib.hid (HM.out.trans hl2)
  clear c0 c1 c2 c3 hlt hl2 HB HM HCK
  cases q0 with
  | false =>
    go_wp2_with fail
    go_ret
    exact ⟨by rw [HEE.out]; rfl, HM2.out⟩
  | true =>
    have HKO := (keyOkb_iff _).1 HQ0.out
    have hk : kd = 1 ∨ kd = 2 ∨ kd = 3 ∨ kd = 4 ∨ kd = 5 ∨ kd = 6 ∨ kd = 7 ∨ kd = 8 ∨ kd = 9 := by
      have h2 := HKO.k0; have h3 := HKO.k1; dsimp only at h2 h3; omega
    clear HKO HQ0 h0 h1
    rcases hk with rfl | rfl | rfl | rfl | rfl | rfl | rfl | rfl | rfl
    all_goals
      simp (config := { decide := true }) only [topT, lowD, topD, topL, if_true, if_false, Bool.true_and] at HEE
      have c0 := cell_of_blk (j := 0) HB2.out rfl
      have c4 : w2.cell? ⟨w.heap.size, 4, none⟩ = some (.int .i64 t) := cell_of_blk HB2.out rfl
      have c5 : w2.cell? ⟨w.heap.size, 5, none⟩ = some (.int .i64 d) := cell_of_blk HB2.out rfl
      have c6 : w2.cell? ⟨w.heap.size, 6, none⟩ = some (.slice sa ln sc) := cell_of_blk HB2.out rfl
      have hlt := cell_lt c4
      simp only [List.getElem_toArray, List.getElem_cons_zero] at c0
      clear HB2
      go_wp2_with fail
      refine (timed_gen _ _ (by decide) (by decide)).mono ?_
      rintro e wA ⟨rfl, hwA⟩
      have hwA := hwA.symm
      subst hwA
      simp only [Int.reduceLE, decide_true, decide_false]
      go_wp2_with fail
      refine (HWI.out _ _ _ _).mono ?_
      rintro e wA ⟨rfl, hwA⟩
      have hwA := hwA.symm
      subst hwA
      generalize hq1 : decide (0 ≤ t ∧ t ≤ _) = q1 at *
      clear hq1
      cases q1 with
      | false =>
        go_wp2_with fail
        go_ret
        exact ⟨by rw [HEE.out]; rfl, HM2.out⟩
      | true =>
        go_wp2_with fail
        refine (HWI.out _ _ _ _).mono ?_
        rintro e wA ⟨rfl, hwA⟩
        have hwA := hwA.symm
        subst hwA
        generalize hq2 : decide (_ ≤ d ∧ d ≤ _) = q2 at *
        clear hq2
        cases q2 with
        | false =>
          go_wp2_with fail
          go_ret
          exact ⟨by rw [HEE.out]; rfl, HM2.out⟩
        | true =>
          simp only [Bool.true_and] at HEE
          generalize hq3 : decide ((ln : Int) ≤ _) = q3 at HEE
          cases q3 with
          | false =>
            have hq4 := Int.not_le.1 (of_decide_eq_false hq3)
            clear hq3
            go_wp2_with fail
            go_ret
            exact ⟨by rw [HEE.out]; rfl, HM2.out⟩
          | true =>
            have hq4 := of_decide_eq_true hq3
            clear hq3
            go_wp2_with fail
            go_ret
            exact ⟨by rw [HEE.out]; rfl, HM2.out⟩
end Go.Proofs.YtemeppfikpafbaaGreatDoor

/- choice.clone (100) on any choice. -/
namespace Go.Proofs.YtemeppfikpafbaaGreatDoor
open Go.RowKit
/-- A choice stored whole into a block of its own. -/
theorem set7 {w : World} {Q : Nat} {T : TypeId} {x0 x1 x2 x3 x4 x5 x6 y0 y1 y2 y3 y4 y5 y6 : Value} (h : w.heap[Q]? = some (.cells #[y0, y1, y2, y3, y4, y5, y6] T)) {W : World}
    (hW : W = ((((((w.setCell ⟨Q, 0, none⟩ x0).setCell ⟨Q, 1, none⟩ x1).setCell ⟨Q, 2, none⟩ x2).setCell ⟨Q, 3, none⟩ x3).setCell ⟨Q, 4, none⟩ x4).setCell ⟨Q, 5, none⟩ x5).setCell ⟨Q, 6, none⟩ x6) :
    W.heap[Q]? = some (.cells #[x0, x1, x2, x3, x4, x5, x6] T) ∧ (∀ z, z ≠ Q → W.heap[z]? = w.heap[z]?) ∧ ∀ M w0, Below M w0 w → M ≤ Q → Below M w0 W := by
  subst hW
  have h0 := setCell_heap (o := 0) (v := x0) h
  have h1 := setCell_heap (o := 1) (v := x1) h0
  have h2 := setCell_heap (o := 2) (v := x2) h1
  have h3 := setCell_heap (o := 3) (v := x3) h2
  have h4 := setCell_heap (o := 4) (v := x4) h3
  have h5 := setCell_heap (o := 5) (v := x5) h4
  have h6 := setCell_heap (o := 6) (v := x6) h5
  refine ⟨by simpa using h6, fun z hz => ?_, fun M w0 hb hM => ((((((hb.setCell (p := ⟨Q, 0, none⟩) hM _).setCell (p := ⟨Q, 1, none⟩) hM _).setCell (p := ⟨Q, 2, none⟩) hM _).setCell (p := ⟨Q, 3, none⟩) hM _).setCell (p := ⟨Q, 4, none⟩) hM _).setCell (p := ⟨Q, 5, none⟩) hM _).setCell (p := ⟨Q, 6, none⟩) hM _⟩
  have e := fun (W : World) (o : Nat) (v : Value) => Below.heap_setCell W ⟨Q, o, none⟩ v z hz
  rw [e, e, e, e, e, e, e]
set_option maxRecDepth 100000 in
set_option maxHeartbeats 4000000 in
theorem clone100_gen (p : GV) (w : World) (hg : GArg anyB w p) (hl : p.2.l.length ≤ maxLen) (hl2 : p.2.l.length ≤ 1000000) : Calls Tryz.prog 44 #[gA p] w fun e w' => (∃ a c, e = .returned (gA (.slice a p.2.l.length c, p.2)) ∧ GArg (fun b => w.heap.size ≤ b) w' (.slice a p.2.l.length c, p.2)) ∧ Below w.heap.size w w' := by
  obtain ⟨v, ⟨⟨kd, a, b, n⟩, t, d, l⟩⟩ := p
  have hrow := hg.row
  have hnil := hg.nil
  clear hg
  unfold gA
  dsimp only at *
  obtain ⟨sa, sc, rfl, _⟩ := hrow.shape
  obtain ⟨i1, hi1, hy0, hy1, hy2⟩ := info_parts infoN
  obtain ⟨ln, HLN⟩ : ∃ ln, Hid (l.length = ln) := ⟨_, Lib.hid rfl⟩
  rw [HLN.out] at hrow hnil hl2 ⊢
  have hm := (boxed2 w (.cells #[.int .u8 kd, .int .i64 a, .int .i64 b, .int .i64 n, .int .i64 t, .int .i64 d, .slice sa ln sc] 58) (.cells #[.int .u8 0, .int .i64 0, .int .i64 0, .int .i64 0, .int .i64 0, .int .i64 0, .slice none 0 0] 58))
  have HP := Lib.hid hm.1
  have HQ := Lib.hid hm.2.1
  have HM := Lib.hid hm.2.2.1
  have HR := Lib.hid (hrow.below HM.out.below)
  have HN := Lib.hid hnil
  have HL2 := Lib.hid hl2
  clear hm hrow hnil hl hl2
  go_enter Tryz.func44, Tryz.ntmps44
  go_upto_region 1 with (fail)
  generalize (w.alloc (.cells #[.int .u8 kd, .int .i64 a, .int .i64 b, .int .i64 n, .int .i64 t, .int .i64 d, .slice sa ln sc] 58)).alloc (.cells #[.int .u8 0, .int .i64 0, .int .i64 0, .int .i64 0, .int .i64 0, .int .i64 0, .slice none 0 0] 58) = w1 at *
  obtain ⟨PB, HPB⟩ : ∃ PB, Hid (PB = w.heap.size) := ⟨_, Lib.hid rfl⟩
  rw [← HPB.out] at HP HQ ⊢
  obtain ⟨QB, HQB⟩ : ∃ QB, Hid (QB = PB + 1) := ⟨_, Lib.hid rfl⟩
  rw [← HQB.out] at HQ ⊢
  have c6 : w1.cell? ⟨PB, 6, none⟩ = some (.slice sa ln sc) := cell_of_blk HP.out rfl
  have hlt := cell_lt c6
  have hn : ln ≤ 1000000 := HL2.out
  go_upto_region 2 with (at_builtin; refine wpList_append_rowC rfl _ _ 56 rfl w1.heap.size 2 i1 _ 1 8 Tryz.underlying56 hi1 hy0 hy1 hy2 rfl (by omega) (.slice none 0 0) 0 [] rfl (World.ownsRow_nil _ _ _ _) (.slice sa ln sc) ln (flatC nC l) rfl HR.out HN.out (nC_one _) (by unfold maxLen; omega) (by omega) (Nat.le_refl _) ?_; intro v2 w2 hown hgrow; rw [Nat.zero_add] at hown; obtain ⟨ga, gc, rfl, _⟩ := owns_shape hown; have HM2 := Lib.hid (show More w1 w2 from hgrow); have HP2 := Lib.hid ((HM2.out.block (blk_lt HP.out)).trans HP.out); have z6 : w2.cell? ⟨PB, 6, none⟩ = some (.slice sa ln sc) := cell_of_blk HP2.out rfl; have f6 := thaw HP2.out 6; have hbz := cell_lt z6)
  have HOW := Lib.hid hown
  have HQ2 := Lib.hid ((HM2.out.block (blk_lt HQ.out)).trans HQ.out)
  have HP3 := Lib.hid (show (w2.setCell ⟨PB, 6, none⟩ (.slice ga ln gc)).heap[PB]? = some (.cells #[.int .u8 kd, .int .i64 a, .int .i64 b, .int .i64 n, .int .i64 t, .int .i64 d, .slice ga ln gc] 58) from setCell_heap HP2.out)
  have HQ3 := Lib.hid (show (w2.setCell ⟨PB, 6, none⟩ (.slice ga ln gc)).heap[QB]? = _ from (Below.heap_setCell _ _ _ _ (show QB ≠ PB by have := HQB.out; omega)).trans HQ2.out)
  have HO3 := Lib.hid (owns_keep (w' := w2.setCell ⟨PB, 6, none⟩ (.slice ga ln gc)) HOW.out (fun z hz => Below.heap_setCell _ _ _ _ (show z ≠ PB from by have := (HOW.out.lt z hz).1; have := blk_lt HP.out; omega)))
  have HB3 := Lib.hid (show Below PB w (w2.setCell ⟨PB, 6, none⟩ (.slice ga ln gc)) from by
    have h1 := (more_trans HM.out HM2.out).below
    rw [← HPB.out] at h1
    exact h1.setCell (p := ⟨PB, 6, none⟩) (Nat.le_refl _) _)
  have HS1 := Lib.hid (show QB < w1.heap.size from blk_lt HQ.out)
  clear hown hgrow z6 f6 hbz c6 hlt
  generalize w2.setCell ⟨PB, 6, none⟩ (.slice ga ln gc) = w3 at *
  have k0 : w3.cell? ⟨PB, 0, none⟩ = some (.int .u8 kd) := cell_of_blk HP3.out rfl
  have k1 : w3.cell? ⟨PB, 1, none⟩ = some (.int .i64 a) := cell_of_blk HP3.out rfl
  have k2 : w3.cell? ⟨PB, 2, none⟩ = some (.int .i64 b) := cell_of_blk HP3.out rfl
  have k3 : w3.cell? ⟨PB, 3, none⟩ = some (.int .i64 n) := cell_of_blk HP3.out rfl
  have k4 : w3.cell? ⟨PB, 4, none⟩ = some (.int .i64 t) := cell_of_blk HP3.out rfl
  have k5 : w3.cell? ⟨PB, 5, none⟩ = some (.int .i64 d) := cell_of_blk HP3.out rfl
  have k6 : w3.cell? ⟨PB, 6, none⟩ = some (.slice ga ln gc) := cell_of_blk HP3.out rfl
  have z0 : w3.cell? ⟨QB, 0, none⟩ = some (.int .u8 0) := cell_of_blk HQ3.out rfl
  have z1 : w3.cell? ⟨QB, 1, none⟩ = some (.int .i64 0) := cell_of_blk HQ3.out rfl
  have z2 : w3.cell? ⟨QB, 2, none⟩ = some (.int .i64 0) := cell_of_blk HQ3.out rfl
  have z3 : w3.cell? ⟨QB, 3, none⟩ = some (.int .i64 0) := cell_of_blk HQ3.out rfl
  have z4 : w3.cell? ⟨QB, 4, none⟩ = some (.int .i64 0) := cell_of_blk HQ3.out rfl
  have z5 : w3.cell? ⟨QB, 5, none⟩ = some (.int .i64 0) := cell_of_blk HQ3.out rfl
  have z6 : w3.cell? ⟨QB, 6, none⟩ = some (.slice none 0 0) := cell_of_blk HQ3.out rfl
  have f0 := thaw HQ3.out 0
  have f1 := thaw HQ3.out 1
  have f2 := thaw HQ3.out 2
  have f3 := thaw HQ3.out 3
  have f4 := thaw HQ3.out 4
  have f5 := thaw HQ3.out 5
  have f6 := thaw HQ3.out 6
  have hbk := cell_lt k0
  have hbz := cell_lt z0
  go_wp2_with fail
  generalize hw4 : (((((w3.setCell ⟨QB, 0, none⟩ (.int .u8 kd)).setCell ⟨QB, 1, none⟩ (.int .i64 a)).setCell ⟨QB, 2, none⟩ (.int .i64 b)).setCell ⟨QB, 3, none⟩ (.int .i64 n)).setCell ⟨QB, 4, none⟩ (.int .i64 t)).setCell ⟨QB, 5, none⟩ (.int .i64 d) = w3b
  generalize hw5 : w3b.setCell ⟨QB, 6, none⟩ (.slice ga ln gc) = w4
  obtain ⟨HQ4, HZ4, HB4⟩ := set7 HQ3.out (W := w4) (by rw [← hw5, ← hw4])
  clear hw4 hw5 k0 k1 k2 k3 k4 k5 k6 z0 z1 z2 z3 z4 z5 z6 f0 f1 f2 f3 f4 f5 f6 hbk hbz
  have c0 : w4.cell? ⟨QB, 0, none⟩ = some (.int .u8 kd) := cell_of_blk HQ4 rfl
  have c1 : w4.cell? ⟨QB, 1, none⟩ = some (.int .i64 a) := cell_of_blk HQ4 rfl
  have c2 : w4.cell? ⟨QB, 2, none⟩ = some (.int .i64 b) := cell_of_blk HQ4 rfl
  have c3 : w4.cell? ⟨QB, 3, none⟩ = some (.int .i64 n) := cell_of_blk HQ4 rfl
  have c4 : w4.cell? ⟨QB, 4, none⟩ = some (.int .i64 t) := cell_of_blk HQ4 rfl
  have c5 : w4.cell? ⟨QB, 5, none⟩ = some (.int .i64 d) := cell_of_blk HQ4 rfl
  have c6 : w4.cell? ⟨QB, 6, none⟩ = some (.slice ga ln gc) := cell_of_blk HQ4 rfl
  have HO4 := owns_keep (w' := w4) HO3.out (fun z hz => HZ4 z (by have h1 := (HOW.out.lt z hz).1; have h2 := HS1.out; omega))
  refine bodyPost_ret (v := .agg #[.int .u8 kd, .int .i64 a, .int .i64 b, .int .i64 n, .int .i64 t, .int .i64 d, .slice ga ln gc]) (by simp [results, Tryz.results44, go_sem, c0, c1, c2, c3, c4, c5, c6]) rfl ⟨⟨ga, gc, rfl, ?_, ?_⟩, ?_⟩
  · show Row _ w4 1 l.length _ _
    rw [HLN.out]
    exact (Row.of_owns HO4).mono (fun z hz => by have h1 : w1.heap.size ≤ z := hz; have h2 := HS1.out; have h3 := HQB.out; have h4 := HPB.out; omega) (fun _ _ _ _ h => h)
  · exact owns_nil HO4
  · rw [← HPB.out]
    exact HB4 _ _ HB3.out (by have := HQB.out; omega)
end Go.Proofs.YtemeppfikpafbaaGreatDoor

/- Choices without number and arguments: within (152), timed (151), CheckKey (150), Check (99), key (54), clone (100), New$1 (127), slices.Equal (166), same (163), equal (132). -/
namespace Go.Proofs.YtemeppfikpafbaaGreatDoor
open Go.RowKit
set_option maxRecDepth 10000 in
theorem newCmp_any (f : K4 → Int) : CmpSaid 46 (fun k => chC ⟨k, f k⟩) cmpK4 := by
  intro a b w
  have HC := Lib.hid (fun w => compareK_any a b w)
  unfold chC kA at *
  dsimp only
  generalize cmpK4 a b = c at *
  generalize f a = fa
  generalize f b = fb
  go_enter Tryz.func46, Tryz.ntmps46
  go_wp2_with fail
  refine (HC.out _).mono ?_
  rintro e w2 ⟨rfl, hl2⟩
  have HM := Lib.hid (((Lay.alloc _ _).trans (Lay.alloc _ _)).trans hl2)
  clear hl2
  go_wp2_with fail
  go_ret
  exact ⟨rfl, HM.out⟩
end Go.Proofs.YtemeppfikpafbaaGreatDoor

/- The law's messages (39), keys (40). -/
namespace Go.Proofs.YtemeppfikpafbaaGreatDoor
open Go.RowKit
end Go.Proofs.YtemeppfikpafbaaGreatDoor

/- cache.sorted (82) and its comparison (125); choice.New (86). -/
namespace Go.Proofs.YtemeppfikpafbaaGreatDoor
open Go.RowKit Go.Sort Go.Shelf
def cmpM3 (x y : M3) : Int := orI [cmpI x.f y.f, cmpI x.t y.t, cmpI x.n y.n]
theorem cmpM_by : CmpBy cmpM3 ltM where
  neg x y := by
    unfold cmpM3 ltM
    rw [orI_neg, orI_neg, orI_neg, orI_nil, cmpI_neg, cmpI_neg, cmpI_neg, cmpI_zero, cmpI_zero]
    simp
  irrefl := ltM_irrefl
  trans _ _ _ := ltM_trans
  tri _ _ := ltM_tri
theorem agg113 : ∀ w, (isAgg (Tryz.sortChoice_ren.t 24)).run Tryz.prog w = .ok true w := fun _ => by kernel_rfl
theorem size113 : ∀ w, (Go.sizeOf (Tryz.sortChoice_ren.t 24)).run Tryz.prog w = .ok 7 w := fun _ => by kernel_rfl
theorem call127 : ∀ args w, (callFunc 46 args).run Tryz.prog w = .ok (.enter 46 args) w := fun _ _ => by kernel_rfl
theorem chC_one (x : Ch) : ∀ v ∈ chC x, v.oneCell' = true := by intro v hv; simp [chC] at hv; rcases hv with rfl | rfl | rfl | rfl | rfl | rfl | rfl <;> rfl
def srtK (s : List K4) : List K4 := s.mergeSort fun x y => !(ltOf cmpK4) y x
def withT (f : K4 → Int) (s : List K4) : List Ch := s.map fun k => ⟨k, f k⟩
theorem flat_withT (f : K4 → Int) (s : List K4) : flatC (fun k => chC ⟨k, f k⟩) s = flatC chC (withT f s) := by
  unfold flatC withT
  rw [List.flatMap_map]
theorem sortChoice (f : K4 → Int) {s : List K4} (v : Value) (B : Nat) (w : World) (hl : s.length < 1000000) (hown : w.ownsRow B 58 7 v s.length (flatC chC (withT f s))) :
    Calls Tryz.prog 45 #[v, .func (.func 46) #[] #[]] w fun e w' => e = .returned (.tuple #[]) ∧ w.grownBy w' v.ownBlock ∧ w'.ownsRow B 58 7 v s.length (flatC chC (withT f (srtK s))) := by
  rw [← flat_withT] at hown
  have := sortF (ρ := Tryz.sortChoice_ren) Tryz.sortChoice agg113 size113 (enc := fun k => chC ⟨k, f k⟩) (fun _ => chC_len _) (by omega) (fun x => chC_one _) cmpK4 cmpK_by.swo cmpK_by.total 46 call127 (newCmp_any f) s v B 58 w (by omega) hown
  rw [flat_withT] at this
  exact this
end Go.Proofs.YtemeppfikpafbaaGreatDoor

