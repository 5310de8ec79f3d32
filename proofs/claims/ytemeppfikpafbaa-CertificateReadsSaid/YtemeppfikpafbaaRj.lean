/- Texts SorG, laid together. -/
import Derived.Test.YtemeppfikpafbaaRg
import Derived.Test.YtemeppfikpafbaaRh
import Derived.Test.YtemeppfikpafbaaRi
/- The reference's Sort of choices (rootcauseref17.Sort, 144): by key, the first one of each key. -/
namespace Go.Proofs.Ytemeppfikpafbaa
open Go.RowKit
def insG (c : GV) : List GV → Bool → List GV
  | [], d => if d then [] else [c]
  | x :: r, d => if (d || decide (x.2.k = c.2.k)) = false ∧ ltK c.2.k x.2.k then c :: x :: insG c r true else x :: insG c r (d || decide (x.2.k = c.2.k))
def AscG (l : List GV) : Prop := l.Pairwise fun x y => ltK x.2.k y.2.k
theorem insG_true (c : GV) : ∀ l : List GV, insG c l true = l
  | [] => by simp [insG]
  | x :: r => by simp [insG, insG_true c r]
theorem insG_mem (c : GV) : ∀ (l : List GV) (d : Bool), ∀ p ∈ insG c l d, p ∈ l ∨ p = c
  | [], d, p, h => by cases d <;> simp [insG] at h; exact Or.inr h
  | x :: r, d, p, h => by
    unfold insG at h
    split at h
    · rw [insG_true] at h
      simp only [List.mem_cons] at h ⊢
      rcases h with h | h | h
      · exact Or.inr h
      · exact Or.inl (Or.inl h)
      · exact Or.inl (Or.inr h)
    · rcases List.mem_cons.1 h with h | h
      · exact Or.inl (by simp [h])
      · rcases insG_mem c r _ p h with h | h
        · exact Or.inl (by simp [h])
        · exact Or.inr h
theorem insG_len (c : GV) : ∀ (l : List GV) (d : Bool), (insG c l d).length ≤ l.length + 1
  | [], d => by cases d <;> simp [insG]
  | x :: r, d => by
    unfold insG
    split
    · rw [insG_true]; simp
    · have := insG_len c r (d || decide (x.2.k = c.2.k)); simp; omega
theorem insG_asc (c : GV) : ∀ (l : List GV), AscG l → AscG (insG c l false)
  | [], _ => by simp [insG, AscG]
  | x :: r, h => by
    unfold AscG at h
    rw [List.pairwise_cons] at h
    unfold insG
    split
    · rename_i hc
      rw [insG_true]
      unfold AscG
      rw [List.pairwise_cons, List.pairwise_cons]
      refine ⟨fun y hy => ?_, h.1, h.2⟩
      rcases List.mem_cons.1 hy with rfl | hy
      · exact hc.2
      · exact ltK_trans hc.2 (h.1 y hy)
    · rename_i hc
      rw [Bool.false_or] at hc ⊢
      by_cases he : x.2.k = c.2.k
      · rw [decide_eq_true he, insG_true]
        unfold AscG
        rw [List.pairwise_cons]
        exact h
      · rw [decide_eq_false he] at hc ⊢
        have hx : ltK x.2.k c.2.k := by
          by_cases h1 : ltK x.2.k c.2.k
          · exact h1
          · by_cases h2 : ltK c.2.k x.2.k
            · exact absurd ⟨rfl, h2⟩ hc
            · exact absurd (ltK_tri h1 h2) he
        unfold AscG
        rw [List.pairwise_cons]
        refine ⟨fun y hy => ?_, insG_asc c r h.2⟩
        rcases insG_mem c r false y hy with h1 | rfl
        · exact h.1 y h1
        · exact hx
theorem room72 {n : Nat} (h : n ≤ 1003) : n ≤ maxLen ∧ n * 72 ≤ 140737488355328 := by unfold maxLen; omega
theorem insG_skip {c x : GV} {r : List GV} {d : Bool} (h : (d || decide (x.2.k = c.2.k)) = true ∨ ltKb c.2.k x.2.k = false) : insG c (x :: r) d = x :: insG c r (d || decide (x.2.k = c.2.k)) := by
  rw [insG, if_neg]
  rintro ⟨h1, h2⟩
  rcases h with h | h
  · rw [h1] at h; cases h
  · rw [(ltKb_iff _ _).2 h2] at h; cases h
theorem insG_put {c x : GV} {r : List GV} (h1 : ¬ x.2.k = c.2.k) (h2 : ltK c.2.k x.2.k) : insG c (x :: r) false = c :: x :: insG c r true := by
  rw [insG, if_pos ⟨by rw [decide_eq_false h1]; rfl, h2⟩]
set_option maxRecDepth 100000 in
set_option maxHeartbeats 4000000 in
theorem sort144_any (l : List GV) (v : Value) (w : World) (hl : l.length ≤ 1000) (hr : Row anyB w 7 l.length v (flatC gC l)) (h1c : ∀ p ∈ l, ∃ a c, p.1 = .slice a p.2.l.length c) :
    Calls Try.prog 144 #[v] w fun e w' => (∃ v' l', e = .returned v' ∧ w'.ownsRow w.heap.size 113 7 v' l'.length (flatC gC l') ∧ AscG l' ∧ (∀ p ∈ l', p ∈ l) ∧ l'.length ≤ l.length) ∧ Below w.heap.size w w' := by
  obtain ⟨a, cap, rfl, _⟩ := hr.shape
  have HR := Lib.hid hr; clear hr
  have H1 := Lib.hid h1c; clear h1c
  have HL := Lib.hid hl
  obtain ⟨i0, hi0, hz0, hz1, hz2⟩ := info_parts infoG
  obtain ⟨N, HN⟩ : ∃ N, Hid (N = w.heap.size) := ⟨_, Lib.hid rfl⟩
  rw [← HN.out]
  go_enter Try.func144, Try.ntmps144
  go_wp2_with fail
  go_loopw [3, 12] (fun u i wr => ∃ (j : Nat) (o : List GV), j ≤ l.length ∧ i = .int .i64 j ∧ Hid (wr.ownsRow N 113 7 u o.length (flatC gC o)) ∧ Hid (Below N w wr) ∧ Hid (AscG o) ∧ Hid (∀ p ∈ o, p ∈ l) ∧ Hid (o.length ≤ j)) (fun _ i _ => l.length - (intOf i).toNat)
  case atStart => exact ⟨0, [], Nat.zero_le _, rfl, Lib.hid (World.ownsRow_nil _ _ _ _), Lib.hid (Below.refl _ _), Lib.hid List.Pairwise.nil, Lib.hid (fun p h => by simp at h), Lib.hid (Nat.le_refl _)⟩
  case round =>
    obtain ⟨j, o, hj, rfl, HO, HB, HA, HM, HOL⟩ := hrel
    obtain ⟨wo, rfl⟩ : ∃ wo : World, wo = wr := ⟨_, rfl⟩
    have HMW := Lib.hid (show More w wo from by have := HB.out; rw [HN.out] at this; exact more_of this)
    have HNO := Lib.hid (show N ≤ wo.heap.size by rw [HN.out]; exact HMW.out.size)
    obtain ⟨oa, oc, rfl, _⟩ := owns_shape HO.out
    by_cases hlt : j < l.length
    · obtain ⟨b, off, rfl, _, hc⟩ := HR.out.atC gC_len hlt
      have g0 := HMW.out.cell (hc 0 (.int .u8 l[j].2.k.kind) rfl)
      have g1 := HMW.out.cell (hc 1 (.int .i64 l[j].2.k.a) rfl)
      have g2 := HMW.out.cell (hc 2 (.int .i64 l[j].2.k.b) rfl)
      have g3 := HMW.out.cell (hc 3 (.int .i64 l[j].2.k.n) rfl)
      have g4 := HMW.out.cell (hc 4 (.int .i64 l[j].2.t) rfl)
      have g5 := HMW.out.cell (hc 5 (.int .i64 l[j].2.d) rfl)
      have g6 := HMW.out.cell (hc 6 (l[j].1) rfl)
      rw [Nat.add_zero] at g0
      clear hc
      have HCM := Lib.hid (List.getElem_mem hlt)
      obtain ⟨ca, cc, hcv⟩ := H1.out _ (List.getElem_mem hlt)
      rw [hcv] at g6
      have HGC := Lib.hid (show gC l[j] = [.int .u8 l[j].2.k.kind, .int .i64 l[j].2.k.a, .int .i64 l[j].2.k.b, .int .i64 l[j].2.k.n, .int .i64 l[j].2.t, .int .i64 l[j].2.d, .slice ca l[j].2.l.length cc] by unfold gC; rw [hcv])
      clear hcv
      have HLT := Lib.hid hlt
      generalize l[j] = c at *
      have hbg := cell_lt g0
      have HXC := Lib.hid (alloc_last wo (.cells #[.int .u8 c.2.k.kind, .int .i64 c.2.k.a, .int .i64 c.2.k.b, .int .i64 c.2.k.n, .int .i64 c.2.t, .int .i64 c.2.d, .slice ca c.2.l.length cc] 113))
      have HM5 := Lib.hid (more_alloc wo (.cells #[.int .u8 c.2.k.kind, .int .i64 c.2.k.a, .int .i64 c.2.k.b, .int .i64 c.2.k.n, .int .i64 c.2.t, .int .i64 c.2.d, .slice ca c.2.l.length cc] 113))
      go_upto_region 5 with (fail)
      clear g0 g1 g2 g3 g4 g5 g6 hbg
      generalize wo.alloc (.cells #[.int .u8 c.2.k.kind, .int .i64 c.2.k.a, .int .i64 c.2.k.b, .int .i64 c.2.k.n, .int .i64 c.2.t, .int .i64 c.2.d, .slice ca c.2.l.length cc] 113) = w5 at *
      obtain ⟨CB, HCB⟩ : ∃ CB, Hid (CB = wo.heap.size) := ⟨_, Lib.hid rfl⟩
      rw [← HCB.out] at HXC ⊢
      have HO5 := Lib.hid (owns_keep HO.out (fun z hz => HM5.out.block (HO.out.lt z hz).2))
      have HR5 := Lib.hid ((Row.of_owns HO5.out).mono (S' := anyB) (fun _ _ => trivial) (fun _ _ _ _ h => h))
      obtain ⟨N2, HN2⟩ : ∃ N2, Hid (N2 = w5.heap.size) := ⟨_, Lib.hid rfl⟩
      have hol : o.length ≤ 1000 := by have := HOL.out; have := HL.out; omega
      go_wp2_with fail
      go_loopw [6, 7, 18] (fun u d i wx => ∃ (m : Nat) (nx : List GV) (dn : Bool), m ≤ o.length ∧ d = .bool dn ∧ i = .int .i64 m ∧ Hid (wx.ownsRow N2 113 7 u nx.length (flatC gC nx)) ∧ Hid (Below N2 w5 wx) ∧ Hid (nx ++ insG c (o.drop m) dn = insG c o false)) (fun _ _ i _ => o.length - (intOf i).toNat)
      case atStart => exact ⟨0, [], false, Nat.zero_le _, rfl, rfl, Lib.hid (World.ownsRow_nil _ _ _ _), Lib.hid (Below.refl _ _), Lib.hid (by simp)⟩
      case round =>
        obtain ⟨m, nx, dn, hm, rfl, rfl, HX, HBX, HE⟩ := hrel
        obtain ⟨wx, rfl⟩ : ∃ wx : World, wx = wr := ⟨_, rfl⟩
        have HMX := Lib.hid (show More w5 wx from by have := HBX.out; rw [HN2.out] at this; exact more_of this)
        have HNX := Lib.hid (show N2 ≤ wx.heap.size by rw [HN2.out]; exact HMX.out.size)
        have HNL := Lib.hid (show nx.length ≤ 1001 by have h1 := congrArg List.length HE.out; have h2 := insG_len c o false; rw [List.length_append] at h1; omega)
        have HCX := Lib.hid ((HMX.out.block (blk_lt HXC.out)).trans HXC.out)
        obtain ⟨na, nc, rfl, _⟩ := owns_shape HX.out
        by_cases hmt : m < o.length
        · obtain ⟨b2, off2, rfl, _, hc⟩ := HR5.out.atC gC_len hmt
          have e0 := HMX.out.cell (hc 0 (.int .u8 o[m].2.k.kind) rfl)
          have e1 := HMX.out.cell (hc 1 (.int .i64 o[m].2.k.a) rfl)
          have e2 := HMX.out.cell (hc 2 (.int .i64 o[m].2.k.b) rfl)
          have e3 := HMX.out.cell (hc 3 (.int .i64 o[m].2.k.n) rfl)
          have e4 := HMX.out.cell (hc 4 (.int .i64 o[m].2.t) rfl)
          have e5 := HMX.out.cell (hc 5 (.int .i64 o[m].2.d) rfl)
          have e6 := HMX.out.cell (hc 6 (o[m].1) rfl)
          rw [Nat.add_zero] at e0
          clear hc
          obtain ⟨xa, xc, hxv⟩ := H1.out _ (HM.out _ (List.getElem_mem hmt))
          rw [hxv] at e6
          have HGX := Lib.hid (show gC o[m] = [.int .u8 o[m].2.k.kind, .int .i64 o[m].2.k.a, .int .i64 o[m].2.k.b, .int .i64 o[m].2.k.n, .int .i64 o[m].2.t, .int .i64 o[m].2.d, .slice xa o[m].2.l.length xc] by unfold gC; rw [hxv])
          clear hxv
          rw [List.drop_eq_getElem_cons hmt] at HE
          have HMT := Lib.hid hmt
          generalize o[m] = x at *
          have hbe := cell_lt e0
          have HXX := Lib.hid (alloc_last wx (.cells #[.int .u8 x.2.k.kind, .int .i64 x.2.k.a, .int .i64 x.2.k.b, .int .i64 x.2.k.n, .int .i64 x.2.t, .int .i64 x.2.d, .slice xa x.2.l.length xc] 113))
          have HM6 := Lib.hid (more_alloc wx (.cells #[.int .u8 x.2.k.kind, .int .i64 x.2.k.a, .int .i64 x.2.k.b, .int .i64 x.2.k.n, .int .i64 x.2.t, .int .i64 x.2.d, .slice xa x.2.l.length xc] 113))
          go_upto_region 10 with (fail)
          clear e0 e1 e2 e3 e4 e5 e6 hbe
          generalize wx.alloc (.cells #[.int .u8 x.2.k.kind, .int .i64 x.2.k.a, .int .i64 x.2.k.b, .int .i64 x.2.k.n, .int .i64 x.2.t, .int .i64 x.2.d, .slice xa x.2.l.length xc] 113) = w6 at *
          obtain ⟨XB, HXB⟩ : ∃ XB, Hid (XB = wx.heap.size) := ⟨_, Lib.hid rfl⟩
          rw [← HXB.out] at HXX ⊢
          have HZX := Lib.hid (show ∀ z, (Value.slice na nx.length nc).ownBlock = some z → N2 ≤ z ∧ z < XB from fun z hz => by rw [HXB.out]; exact HX.out.lt z hz)
          have HC6 := Lib.hid ((HM6.out.block (blk_lt HCX.out)).trans HCX.out)
          have HX6 := Lib.hid (owns_keep HX.out (fun z hz => HM6.out.block (Nat.lt_of_lt_of_le (HX.out.lt z hz).2 (Nat.le_refl _))))
          have HB6 := Lib.hid (show Below N2 w5 w6 from HBX.out.trans (HM6.out.below.mono (by have := HNX.out; have := HM6.out.size; omega)))
          have HR1 := Lib.hid (room72 (n := nx.length + 1) (Nat.le_trans (Nat.succ_le_succ HNL.out) (by decide)))
          have HR2 := Lib.hid (room72 (n := nx.length + 1 + 1) (Nat.succ_le_succ (Nat.succ_le_succ HNL.out)))
          have heq := fun W => run_eqK x.2.k c.2.k W
          have HL7 := Lib.hid (fun W => lessK_ref c.2.k x.2.k W)
          have HS6 := Lib.hid (show N2 ≤ w6.heap.size by have := HNX.out; have := HM6.out.size; omega)
          by_cases he : x.2.k = c.2.k
          · rw [decide_eq_true he] at heq
            have HET := Lib.hid (insG_skip (c := c) (r := o.drop (m + 1)) (d := dn) (x := x) (Or.inl (by rw [decide_eq_true he, Bool.or_true])))
            rw [decide_eq_true he, Bool.or_true] at HET
            clear he
            have x0 : w6.cell? ⟨XB, 0, none⟩ = some (.int .u8 x.2.k.kind) := cell_of_blk HXX.out rfl
            have x1 : w6.cell? ⟨XB, 1, none⟩ = some (.int .i64 x.2.k.a) := cell_of_blk HXX.out rfl
            have x2 : w6.cell? ⟨XB, 2, none⟩ = some (.int .i64 x.2.k.b) := cell_of_blk HXX.out rfl
            have x3 : w6.cell? ⟨XB, 3, none⟩ = some (.int .i64 x.2.k.n) := cell_of_blk HXX.out rfl
            have x4 : w6.cell? ⟨XB, 4, none⟩ = some (.int .i64 x.2.t) := cell_of_blk HXX.out rfl
            have x5 : w6.cell? ⟨XB, 5, none⟩ = some (.int .i64 x.2.d) := cell_of_blk HXX.out rfl
            have x6 : w6.cell? ⟨XB, 6, none⟩ = some (.slice xa x.2.l.length xc) := cell_of_blk HXX.out rfl
            have k0 : w6.cell? ⟨CB, 0, none⟩ = some (.int .u8 c.2.k.kind) := cell_of_blk HC6.out rfl
            have k1 : w6.cell? ⟨CB, 1, none⟩ = some (.int .i64 c.2.k.a) := cell_of_blk HC6.out rfl
            have k2 : w6.cell? ⟨CB, 2, none⟩ = some (.int .i64 c.2.k.b) := cell_of_blk HC6.out rfl
            have k3 : w6.cell? ⟨CB, 3, none⟩ = some (.int .i64 c.2.k.n) := cell_of_blk HC6.out rfl
            go_wp2_with (at_builtin; refine wpList_append_own _ rfl _ _ 71 rfl N2 113 i0 _ 7 72 Try.underlying71 hi0 hz0 hz1 hz2 rfl (by omega) (.slice na nx.length nc) nx.length (flatC gC nx) rfl (owns_keep HX6.out (fun z hz => Below.heap_alloc w6 _ _ (HX6.out.lt z hz).2)) ⟨w6.heap.size, 0, none⟩ 1 1 [.int .u8 x.2.k.kind, .int .i64 x.2.k.a, .int .i64 x.2.k.b, .int .i64 x.2.k.n, .int .i64 x.2.t, .int .i64 x.2.d, .slice xa x.2.l.length xc] rfl rfl (World.news_of_block (cs := #[.int .u8 x.2.k.kind, .int .i64 x.2.k.a, .int .i64 x.2.k.b, .int .i64 x.2.k.n, .int .i64 x.2.t, .int .i64 x.2.d, .slice xa x.2.l.length xc]) (t := 113) (fr := (0, 0)) (alloc_last _ _)) (by simp [Value.oneCell']) HR1.out.1 HR1.out.2 (by rw [World.size_alloc]; exact Nat.le_succ_of_le HS6.out) ?_; intro v9 w9 hown9 hgrow9 _)
            clear x0 x1 x2 x3 x4 x5 x6 k0 k1 k2 k3
            have HX9 := Lib.hid (show w9.ownsRow N2 113 7 v9 (nx ++ [x]).length (flatC gC (nx ++ [x])) by simp only [List.length_append, List.length_singleton, flatC_push, HGX.out]; exact hown9)
            have HB9 := Lib.hid (show Below N2 w5 w9 from (HB6.out.alloc HS6.out _).grown hgrow9 (by rw [World.size_alloc]; exact Nat.le_succ_of_le HS6.out) (fun z hz => (HZX.out z hz).1))
            have HE9 := Lib.hid (show (nx ++ [x]) ++ insG c (o.drop (m + 1)) true = insG c o false by rw [← HE.out, HET.out]; simp)
            clear hown9 hgrow9
            have hmt9 := HMT.out
            go_wp2_with fail
            go_roundw
            case rel => exact ⟨m + 1, nx ++ [x], true, by omega, rfl, by go_num, HX9, HB9, HE9⟩
            case measure => have := HMT.out; simp [intOf]; omega
          · rw [decide_eq_false he] at heq
            cases dn with
            | true =>
              have HET := Lib.hid (insG_skip (c := c) (r := o.drop (m + 1)) (d := true) (x := x) (Or.inl rfl))
              rw [Bool.true_or] at HET
              clear he
              have x0 : w6.cell? ⟨XB, 0, none⟩ = some (.int .u8 x.2.k.kind) := cell_of_blk HXX.out rfl
              have x1 : w6.cell? ⟨XB, 1, none⟩ = some (.int .i64 x.2.k.a) := cell_of_blk HXX.out rfl
              have x2 : w6.cell? ⟨XB, 2, none⟩ = some (.int .i64 x.2.k.b) := cell_of_blk HXX.out rfl
              have x3 : w6.cell? ⟨XB, 3, none⟩ = some (.int .i64 x.2.k.n) := cell_of_blk HXX.out rfl
              have x4 : w6.cell? ⟨XB, 4, none⟩ = some (.int .i64 x.2.t) := cell_of_blk HXX.out rfl
              have x5 : w6.cell? ⟨XB, 5, none⟩ = some (.int .i64 x.2.d) := cell_of_blk HXX.out rfl
              have x6 : w6.cell? ⟨XB, 6, none⟩ = some (.slice xa x.2.l.length xc) := cell_of_blk HXX.out rfl
              have k0 : w6.cell? ⟨CB, 0, none⟩ = some (.int .u8 c.2.k.kind) := cell_of_blk HC6.out rfl
              have k1 : w6.cell? ⟨CB, 1, none⟩ = some (.int .i64 c.2.k.a) := cell_of_blk HC6.out rfl
              have k2 : w6.cell? ⟨CB, 2, none⟩ = some (.int .i64 c.2.k.b) := cell_of_blk HC6.out rfl
              have k3 : w6.cell? ⟨CB, 3, none⟩ = some (.int .i64 c.2.k.n) := cell_of_blk HC6.out rfl
              go_wp2_with (at_builtin; refine wpList_append_own _ rfl _ _ 71 rfl N2 113 i0 _ 7 72 Try.underlying71 hi0 hz0 hz1 hz2 rfl (by omega) (.slice na nx.length nc) nx.length (flatC gC nx) rfl (owns_keep HX6.out (fun z hz => Below.heap_alloc w6 _ _ (HX6.out.lt z hz).2)) ⟨w6.heap.size, 0, none⟩ 1 1 [.int .u8 x.2.k.kind, .int .i64 x.2.k.a, .int .i64 x.2.k.b, .int .i64 x.2.k.n, .int .i64 x.2.t, .int .i64 x.2.d, .slice xa x.2.l.length xc] rfl rfl (World.news_of_block (cs := #[.int .u8 x.2.k.kind, .int .i64 x.2.k.a, .int .i64 x.2.k.b, .int .i64 x.2.k.n, .int .i64 x.2.t, .int .i64 x.2.d, .slice xa x.2.l.length xc]) (t := 113) (fr := (0, 0)) (alloc_last _ _)) (by simp [Value.oneCell']) HR1.out.1 HR1.out.2 (by rw [World.size_alloc]; exact Nat.le_succ_of_le HS6.out) ?_; intro v9 w9 hown9 hgrow9 _)
              clear x0 x1 x2 x3 x4 x5 x6 k0 k1 k2 k3
              have HX9 := Lib.hid (show w9.ownsRow N2 113 7 v9 (nx ++ [x]).length (flatC gC (nx ++ [x])) by simp only [List.length_append, List.length_singleton, flatC_push, HGX.out]; exact hown9)
              have HB9 := Lib.hid (show Below N2 w5 w9 from (HB6.out.alloc HS6.out _).grown hgrow9 (by rw [World.size_alloc]; exact Nat.le_succ_of_le HS6.out) (fun z hz => (HZX.out z hz).1))
              have HE9 := Lib.hid (show (nx ++ [x]) ++ insG c (o.drop (m + 1)) true = insG c o false by rw [← HE.out, HET.out]; simp)
              clear hown9 hgrow9
              have hmt9 := HMT.out
              go_wp2_with fail
              go_roundw
              case rel => exact ⟨m + 1, nx ++ [x], true, by omega, rfl, by go_num, HX9, HB9, HE9⟩
              case measure => have := HMT.out; simp [intOf]; omega
            | false =>
              have x0 : w6.cell? ⟨XB, 0, none⟩ = some (.int .u8 x.2.k.kind) := cell_of_blk HXX.out rfl
              have x1 : w6.cell? ⟨XB, 1, none⟩ = some (.int .i64 x.2.k.a) := cell_of_blk HXX.out rfl
              have x2 : w6.cell? ⟨XB, 2, none⟩ = some (.int .i64 x.2.k.b) := cell_of_blk HXX.out rfl
              have x3 : w6.cell? ⟨XB, 3, none⟩ = some (.int .i64 x.2.k.n) := cell_of_blk HXX.out rfl
              have x4 : w6.cell? ⟨XB, 4, none⟩ = some (.int .i64 x.2.t) := cell_of_blk HXX.out rfl
              have x5 : w6.cell? ⟨XB, 5, none⟩ = some (.int .i64 x.2.d) := cell_of_blk HXX.out rfl
              have x6 : w6.cell? ⟨XB, 6, none⟩ = some (.slice xa x.2.l.length xc) := cell_of_blk HXX.out rfl
              have k0 : w6.cell? ⟨CB, 0, none⟩ = some (.int .u8 c.2.k.kind) := cell_of_blk HC6.out rfl
              have k1 : w6.cell? ⟨CB, 1, none⟩ = some (.int .i64 c.2.k.a) := cell_of_blk HC6.out rfl
              have k2 : w6.cell? ⟨CB, 2, none⟩ = some (.int .i64 c.2.k.b) := cell_of_blk HC6.out rfl
              have k3 : w6.cell? ⟨CB, 3, none⟩ = some (.int .i64 c.2.k.n) := cell_of_blk HC6.out rfl
              have HHE := Lib.hid he
              clear he
              go_wp2_with fail
              refine (HL7.out _).mono ?_
              rintro e w7 ⟨rfl, hl7⟩
              clear x0 x1 x2 x3 x4 x5 x6 k0 k1 k2 k3
              have HM7 := Lib.hid hl7.1
              clear hl7
              have HXX7 := Lib.hid ((HM7.out.block (blk_lt HXX.out)).trans HXX.out)
              have HC7 := Lib.hid ((HM7.out.block (blk_lt HC6.out)).trans HC6.out)
              have HX7 := Lib.hid (owns_keep HX6.out (fun z hz => HM7.out.block (HX6.out.lt z hz).2))
              have HS7 := Lib.hid (Nat.le_trans HS6.out HM7.out.size)
              have HB7 := Lib.hid (HB6.out.trans (HM7.out.below.mono HS6.out))
              by_cases hq : ltK c.2.k x.2.k
              · have HET := Lib.hid (insG_put (r := o.drop (m + 1)) HHE.out hq)
                have hqb : ltKb c.2.k x.2.k = true := (ltKb_iff _ _).2 hq
                rw [hqb]
                clear hq hqb
                have x0 : w7.cell? ⟨XB, 0, none⟩ = some (.int .u8 x.2.k.kind) := cell_of_blk HXX7.out rfl
                have x1 : w7.cell? ⟨XB, 1, none⟩ = some (.int .i64 x.2.k.a) := cell_of_blk HXX7.out rfl
                have x2 : w7.cell? ⟨XB, 2, none⟩ = some (.int .i64 x.2.k.b) := cell_of_blk HXX7.out rfl
                have x3 : w7.cell? ⟨XB, 3, none⟩ = some (.int .i64 x.2.k.n) := cell_of_blk HXX7.out rfl
                have x4 : w7.cell? ⟨XB, 4, none⟩ = some (.int .i64 x.2.t) := cell_of_blk HXX7.out rfl
                have x5 : w7.cell? ⟨XB, 5, none⟩ = some (.int .i64 x.2.d) := cell_of_blk HXX7.out rfl
                have x6 : w7.cell? ⟨XB, 6, none⟩ = some (.slice xa x.2.l.length xc) := cell_of_blk HXX7.out rfl
                have k0 : w7.cell? ⟨CB, 0, none⟩ = some (.int .u8 c.2.k.kind) := cell_of_blk HC7.out rfl
                have k1 : w7.cell? ⟨CB, 1, none⟩ = some (.int .i64 c.2.k.a) := cell_of_blk HC7.out rfl
                have k2 : w7.cell? ⟨CB, 2, none⟩ = some (.int .i64 c.2.k.b) := cell_of_blk HC7.out rfl
                have k3 : w7.cell? ⟨CB, 3, none⟩ = some (.int .i64 c.2.k.n) := cell_of_blk HC7.out rfl
                have k4 : w7.cell? ⟨CB, 4, none⟩ = some (.int .i64 c.2.t) := cell_of_blk HC7.out rfl
                have k5 : w7.cell? ⟨CB, 5, none⟩ = some (.int .i64 c.2.d) := cell_of_blk HC7.out rfl
                have k6 : w7.cell? ⟨CB, 6, none⟩ = some (.slice ca c.2.l.length cc) := cell_of_blk HC7.out rfl
                go_upto_region 14 with (at_builtin; refine wpList_append_own _ rfl _ _ 71 rfl N2 113 i0 _ 7 72 Try.underlying71 hi0 hz0 hz1 hz2 rfl (by omega) (.slice na nx.length nc) nx.length (flatC gC nx) rfl (owns_keep HX7.out (fun z hz => Below.heap_alloc w7 _ _ (HX7.out.lt z hz).2)) ⟨w7.heap.size, 0, none⟩ 1 1 [.int .u8 c.2.k.kind, .int .i64 c.2.k.a, .int .i64 c.2.k.b, .int .i64 c.2.k.n, .int .i64 c.2.t, .int .i64 c.2.d, .slice ca c.2.l.length cc] rfl rfl (World.news_of_block (cs := #[.int .u8 c.2.k.kind, .int .i64 c.2.k.a, .int .i64 c.2.k.b, .int .i64 c.2.k.n, .int .i64 c.2.t, .int .i64 c.2.d, .slice ca c.2.l.length cc]) (t := 113) (fr := (0, 0)) (alloc_last _ _)) (by simp [Value.oneCell']) HR1.out.1 HR1.out.2 (by rw [World.size_alloc]; exact Nat.le_succ_of_le HS7.out) ?_; intro v8 w8 hown8 hgrow8 _)
                clear x0 x1 x2 x3 x4 x5 x6 k0 k1 k2 k3 k4 k5 k6
                obtain ⟨g8, cp8, rfl, _, _⟩ := hown8.form (by omega)
                have HX8 := Lib.hid hown8
                have HXX8 := Lib.hid ((hgrow8.block XB (by rw [World.size_alloc]; exact Nat.lt_succ_of_lt (blk_lt HXX7.out)) (fun e => by have := HZX.out XB e.symm; omega)).trans ((Below.heap_alloc w7 _ _ (blk_lt HXX7.out)).trans HXX7.out))
                have HB8 := Lib.hid (show Below N2 w5 w8 from (HB7.out.alloc HS7.out _).grown hgrow8 (by rw [World.size_alloc]; exact Nat.le_succ_of_le HS7.out) (fun z hz => (HZX.out z hz).1))
                have HS8 := Lib.hid (show N2 ≤ w8.heap.size from Nat.le_trans (by rw [World.size_alloc]; exact Nat.le_succ_of_le HS7.out) hgrow8.size)
                have HZ8 := Lib.hid (fun z hz => (hown8.lt z hz).1)
                clear hown8 hgrow8
                have x0 : w8.cell? ⟨XB, 0, none⟩ = some (.int .u8 x.2.k.kind) := cell_of_blk HXX8.out rfl
                have x1 : w8.cell? ⟨XB, 1, none⟩ = some (.int .i64 x.2.k.a) := cell_of_blk HXX8.out rfl
                have x2 : w8.cell? ⟨XB, 2, none⟩ = some (.int .i64 x.2.k.b) := cell_of_blk HXX8.out rfl
                have x3 : w8.cell? ⟨XB, 3, none⟩ = some (.int .i64 x.2.k.n) := cell_of_blk HXX8.out rfl
                have x4 : w8.cell? ⟨XB, 4, none⟩ = some (.int .i64 x.2.t) := cell_of_blk HXX8.out rfl
                have x5 : w8.cell? ⟨XB, 5, none⟩ = some (.int .i64 x.2.d) := cell_of_blk HXX8.out rfl
                have x6 : w8.cell? ⟨XB, 6, none⟩ = some (.slice xa x.2.l.length xc) := cell_of_blk HXX8.out rfl
                go_wp2_with (at_builtin; refine wpList_append_own _ rfl _ _ 71 rfl N2 113 i0 _ 7 72 Try.underlying71 hi0 hz0 hz1 hz2 rfl (by omega) (.slice (some ⟨g8, 0, none⟩) (nx.length + 1) cp8) (nx.length + 1) (flatC gC nx ++ [.int .u8 c.2.k.kind, .int .i64 c.2.k.a, .int .i64 c.2.k.b, .int .i64 c.2.k.n, .int .i64 c.2.t, .int .i64 c.2.d, .slice ca c.2.l.length cc]) rfl (owns_keep HX8.out (fun z hz => Below.heap_alloc w8 _ _ (HX8.out.lt z hz).2)) ⟨w8.heap.size, 0, none⟩ 1 1 [.int .u8 x.2.k.kind, .int .i64 x.2.k.a, .int .i64 x.2.k.b, .int .i64 x.2.k.n, .int .i64 x.2.t, .int .i64 x.2.d, .slice xa x.2.l.length xc] rfl rfl (World.news_of_block (cs := #[.int .u8 x.2.k.kind, .int .i64 x.2.k.a, .int .i64 x.2.k.b, .int .i64 x.2.k.n, .int .i64 x.2.t, .int .i64 x.2.d, .slice xa x.2.l.length xc]) (t := 113) (fr := (0, 0)) (alloc_last _ _)) (by simp [Value.oneCell']) HR2.out.1 HR2.out.2 (by rw [World.size_alloc]; exact Nat.le_succ_of_le HS8.out) ?_; intro v9 w9 hown9 hgrow9 _)
                clear x0 x1 x2 x3 x4 x5 x6
                have HX9 := Lib.hid (show w9.ownsRow N2 113 7 v9 (nx ++ [c] ++ [x]).length (flatC gC (nx ++ [c] ++ [x])) by simp only [List.length_append, List.length_singleton, flatC_push, HGX.out, HGC.out]; exact hown9)
                have HB9 := Lib.hid (show Below N2 w5 w9 from (HB8.out.alloc HS8.out _).grown hgrow9 (by rw [World.size_alloc]; exact Nat.le_succ_of_le HS8.out) HZ8.out)
                have HE9 := Lib.hid (show (nx ++ [c] ++ [x]) ++ insG c (o.drop (m + 1)) true = insG c o false by rw [← HE.out, HET.out]; simp)
                clear hown9 hgrow9
                have hmt9 := HMT.out
                go_wp2_with fail
                go_roundw
                case rel => exact ⟨m + 1, nx ++ [c] ++ [x], true, by omega, rfl, by go_num, HX9, HB9, HE9⟩
                case measure => have := HMT.out; simp [intOf]; omega
              · have hqb : ltKb c.2.k x.2.k = false := by rw [← Bool.not_eq_true]; exact fun e => hq ((ltKb_iff _ _).1 e)
                have HET := Lib.hid (insG_skip (c := c) (r := o.drop (m + 1)) (d := false) (x := x) (Or.inr hqb))
                rw [decide_eq_false HHE.out, Bool.or_false] at HET
                rw [hqb]
                clear hq hqb
                have x0 : w7.cell? ⟨XB, 0, none⟩ = some (.int .u8 x.2.k.kind) := cell_of_blk HXX7.out rfl
                have x1 : w7.cell? ⟨XB, 1, none⟩ = some (.int .i64 x.2.k.a) := cell_of_blk HXX7.out rfl
                have x2 : w7.cell? ⟨XB, 2, none⟩ = some (.int .i64 x.2.k.b) := cell_of_blk HXX7.out rfl
                have x3 : w7.cell? ⟨XB, 3, none⟩ = some (.int .i64 x.2.k.n) := cell_of_blk HXX7.out rfl
                have x4 : w7.cell? ⟨XB, 4, none⟩ = some (.int .i64 x.2.t) := cell_of_blk HXX7.out rfl
                have x5 : w7.cell? ⟨XB, 5, none⟩ = some (.int .i64 x.2.d) := cell_of_blk HXX7.out rfl
                have x6 : w7.cell? ⟨XB, 6, none⟩ = some (.slice xa x.2.l.length xc) := cell_of_blk HXX7.out rfl
                have k0 : w7.cell? ⟨CB, 0, none⟩ = some (.int .u8 c.2.k.kind) := cell_of_blk HC7.out rfl
                have k1 : w7.cell? ⟨CB, 1, none⟩ = some (.int .i64 c.2.k.a) := cell_of_blk HC7.out rfl
                have k2 : w7.cell? ⟨CB, 2, none⟩ = some (.int .i64 c.2.k.b) := cell_of_blk HC7.out rfl
                have k3 : w7.cell? ⟨CB, 3, none⟩ = some (.int .i64 c.2.k.n) := cell_of_blk HC7.out rfl
                go_wp2_with (at_builtin; refine wpList_append_own _ rfl _ _ 71 rfl N2 113 i0 _ 7 72 Try.underlying71 hi0 hz0 hz1 hz2 rfl (by omega) (.slice na nx.length nc) nx.length (flatC gC nx) rfl (owns_keep HX7.out (fun z hz => Below.heap_alloc w7 _ _ (HX7.out.lt z hz).2)) ⟨w7.heap.size, 0, none⟩ 1 1 [.int .u8 x.2.k.kind, .int .i64 x.2.k.a, .int .i64 x.2.k.b, .int .i64 x.2.k.n, .int .i64 x.2.t, .int .i64 x.2.d, .slice xa x.2.l.length xc] rfl rfl (World.news_of_block (cs := #[.int .u8 x.2.k.kind, .int .i64 x.2.k.a, .int .i64 x.2.k.b, .int .i64 x.2.k.n, .int .i64 x.2.t, .int .i64 x.2.d, .slice xa x.2.l.length xc]) (t := 113) (fr := (0, 0)) (alloc_last _ _)) (by simp [Value.oneCell']) HR1.out.1 HR1.out.2 (by rw [World.size_alloc]; exact Nat.le_succ_of_le HS7.out) ?_; intro v9 w9 hown9 hgrow9 _)
                clear x0 x1 x2 x3 x4 x5 x6 k0 k1 k2 k3
                have HX9 := Lib.hid (show w9.ownsRow N2 113 7 v9 (nx ++ [x]).length (flatC gC (nx ++ [x])) by simp only [List.length_append, List.length_singleton, flatC_push, HGX.out]; exact hown9)
                have HB9 := Lib.hid (show Below N2 w5 w9 from (HB7.out.alloc HS7.out _).grown hgrow9 (by rw [World.size_alloc]; exact Nat.le_succ_of_le HS7.out) (fun z hz => (HZX.out z hz).1))
                have HE9 := Lib.hid (show (nx ++ [x]) ++ insG c (o.drop (m + 1)) false = insG c o false by rw [← HE.out, HET.out]; simp)
                clear hown9 hgrow9
                have hmt9 := HMT.out
                go_wp2_with fail
                go_roundw
                case rel => exact ⟨m + 1, nx ++ [x], false, by omega, rfl, by go_num, HX9, HB9, HE9⟩
                case measure => have := HMT.out; simp [intOf]; omega
        · obtain rfl : m = o.length := by omega
          rw [List.drop_of_length_le (Nat.le_refl _)] at HE
          have hlt9 := HLT.out
          have HMO := Lib.hid (show More w wx from more_trans HMW.out (more_trans HM5.out HMX.out))
          have HN2N := Lib.hid (show N ≤ N2 by rw [HN2.out]; have := HNO.out; have := HM5.out.size; omega)
          have HBO := Lib.hid (show Below N w wx by rw [HN.out]; exact HMO.out.below)
          have HI1 := Lib.hid (insG_asc c o HA.out)
          have HI2 := Lib.hid (show ∀ p ∈ insG c o false, p ∈ l from fun p hp => by
              rcases insG_mem c o false p hp with h | rfl
              · exact HM.out p h
              · exact HCM.out)
          have HI3 := Lib.hid (show (insG c o false).length ≤ j + 1 by have := insG_len c o false; have := HOL.out; omega)
          cases dn with
          | true =>
            have HEE := Lib.hid (show nx = insG c o false by rw [← HE.out, insG_true]; simp)
            rw [← HEE.out] at HI1 HI2 HI3
            go_wp2_with fail
            go_roundw
            case rel => exact ⟨j + 1, nx, by omega, by go_num, Lib.hid (owns_base HX.out HN2N.out), HBO, HI1, HI2, HI3⟩
            case measure => simp [intOf]; omega
          | false =>
            have HEE := Lib.hid (show nx ++ [c] = insG c o false by rw [← HE.out]; simp [insG])
            rw [← HEE.out] at HI1 HI2 HI3
            have HR1 := Lib.hid (room72 (n := nx.length + 1) (Nat.le_trans (Nat.succ_le_succ HNL.out) (by decide)))
            have k0 : wx.cell? ⟨CB, 0, none⟩ = some (.int .u8 c.2.k.kind) := cell_of_blk HCX.out rfl
            have k1 : wx.cell? ⟨CB, 1, none⟩ = some (.int .i64 c.2.k.a) := cell_of_blk HCX.out rfl
            have k2 : wx.cell? ⟨CB, 2, none⟩ = some (.int .i64 c.2.k.b) := cell_of_blk HCX.out rfl
            have k3 : wx.cell? ⟨CB, 3, none⟩ = some (.int .i64 c.2.k.n) := cell_of_blk HCX.out rfl
            have k4 : wx.cell? ⟨CB, 4, none⟩ = some (.int .i64 c.2.t) := cell_of_blk HCX.out rfl
            have k5 : wx.cell? ⟨CB, 5, none⟩ = some (.int .i64 c.2.d) := cell_of_blk HCX.out rfl
            have k6 : wx.cell? ⟨CB, 6, none⟩ = some (.slice ca c.2.l.length cc) := cell_of_blk HCX.out rfl
            go_wp2_with (at_builtin; refine wpList_append_own _ rfl _ _ 71 rfl N2 113 i0 _ 7 72 Try.underlying71 hi0 hz0 hz1 hz2 rfl (by omega) (.slice na nx.length nc) nx.length (flatC gC nx) rfl (owns_keep HX.out (fun z hz => Below.heap_alloc wx _ _ (HX.out.lt z hz).2)) ⟨wx.heap.size, 0, none⟩ 1 1 [.int .u8 c.2.k.kind, .int .i64 c.2.k.a, .int .i64 c.2.k.b, .int .i64 c.2.k.n, .int .i64 c.2.t, .int .i64 c.2.d, .slice ca c.2.l.length cc] rfl rfl (World.news_of_block (cs := #[.int .u8 c.2.k.kind, .int .i64 c.2.k.a, .int .i64 c.2.k.b, .int .i64 c.2.k.n, .int .i64 c.2.t, .int .i64 c.2.d, .slice ca c.2.l.length cc]) (t := 113) (fr := (0, 0)) (alloc_last _ _)) (by simp [Value.oneCell']) HR1.out.1 HR1.out.2 (by rw [World.size_alloc]; exact Nat.le_succ_of_le HNX.out) ?_; intro v9 w9 hown9 hgrow9 _)
            clear k0 k1 k2 k3 k4 k5 k6
            have HX9 := Lib.hid (show w9.ownsRow N 113 7 v9 (nx ++ [c]).length (flatC gC (nx ++ [c])) by simp only [List.length_append, List.length_singleton, flatC_push, HGC.out]; exact owns_base hown9 HN2N.out)
            have HB9 := Lib.hid (show Below N w w9 from (HBO.out.alloc (Nat.le_trans HN2N.out HNX.out) _).grown hgrow9 (by rw [World.size_alloc]; exact Nat.le_succ_of_le (Nat.le_trans HN2N.out HNX.out)) (fun z hz => Nat.le_trans HN2N.out (HX.out.lt z hz).1))
            clear hown9 hgrow9
            go_wp2_with fail
            go_roundw
            case rel => exact ⟨j + 1, nx ++ [c], by omega, by go_num, HX9, HB9, HI1, HI2, HI3⟩
            case measure => simp [intOf]; omega
    · obtain rfl : j = l.length := by omega
      go_wp2_with fail
      go_ret
      exact ⟨⟨_, o, rfl, HO.out, HA.out, HM.out, HOL.out⟩, HB.out⟩
end Go.Proofs.Ytemeppfikpafbaa

