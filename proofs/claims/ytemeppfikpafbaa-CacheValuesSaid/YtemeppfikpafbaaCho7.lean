/- (choice.Set).Minus (129). -/
import Derived.Test.YtemeppfikpafbaaCho6
import Derived.Test.YtemeppfikpafbaaInvS
import Derived.Deep.DeepCutAuto
namespace Go.Proofs.Ytemeppfikpafbaa
open Go.RowKit
def minusL (l m : List Ch) : List Ch := l.filter fun x => !decide (x ∈ m)
theorem minus_step (l m : List Ch) (j : Nat) (h : j < l.length) : (minusL (l.take (j + 1)) m).length = (minusL (l.take j) m).length + if (!decide (l[j] ∈ m)) = true then 1 else 0 := by
  unfold minusL
  rw [List.take_succ_eq_append_getElem h, List.filter_append, List.length_append]
  by_cases e : l[j] ∈ m <;> simp [e]
theorem mem_place {m : List Ch} (h : AscC m) (x : Ch) {p : Nat} (hp : PlaceC m x.k p) : decide (x ∈ m) = (match m[p]? with | some y => (y.k == x.k) && decide (x = y) | none => false) := by
  rw [getC_iff h x]
  by_cases hz : (m[p]?.map (·.k) == some x.k) = true
  · have hin : p < m.length := by
      by_cases h : p < m.length
      · exact h
      · rw [List.getElem?_eq_none (by omega)] at hz; simp at hz
    have hk : m[p].k = x.k := by rw [List.getElem?_eq_getElem hin] at hz; simpa using hz
    rw [getC_some h hin hk, List.getElem?_eq_getElem hin]
    simp [hk]
  · rw [Bool.not_eq_true] at hz
    rw [getC_none hp h hz]
    cases e : m[p]? with
    | none => rfl
    | some y =>
      rw [e] at hz
      simp only [Option.map_some] at hz
      have : (y.k == x.k) = false := by
        rw [beq_eq_false_iff_ne]
        intro e'
        rw [e'] at hz; simp at hz
      simp [this]
set_option maxRecDepth 100000 in
set_option maxHeartbeats 4000000 in
theorem minus_any (l m : List Ch) (v u : Value) (w : World) (hl : l.length ≤ 100000) (hm : m.length < 4294967296) (hasc : AscC m) (h : Row anyB w 7 l.length v (flatC chC l)) (k : Row anyB w 7 m.length u (flatC chC m)) :
    Calls Try.prog 129 #[.agg #[v], .agg #[u]] w fun e w' => (∃ a cap, e = .returned (.slice a (minusL l m).length cap)) ∧ More w w' := by
  obtain ⟨a, cap, rfl, _⟩ := h.shape
  obtain ⟨a', cap', rfl, _⟩ := k.shape
  have HR := Lib.hid h; clear h
  have HS := Lib.hid k; clear k
  have HASC := Lib.hid hasc
  have HFD := Lib.hid (fun (x : Ch) W (hW : More w W) => find_any m x.k _ W hm hasc (HS.out.below hW.below))
  have HLL := Lib.hid hl
  clear hasc hl hm
  obtain ⟨i0, hi0, hz0, hz1, hz2⟩ := info_parts info48
  go_enter Try.func129, Try.ntmps129
  go_upto_region 2 with (fail)
  obtain ⟨h1, h2, hl⟩ := boxed2 w (.cells #[.slice a l.length cap] 73) (.cells #[.slice a' m.length cap'] 73)
  generalize (w.alloc (.cells #[.slice a l.length cap] 73)).alloc (.cells #[.slice a' m.length cap'] 73) = w2 at *
  have HM2 := Lib.hid hl.1
  obtain ⟨OB, HOO⟩ : ∃ OB, Hid (OB = w.heap.size + 1) := ⟨_, Lib.hid rfl⟩
  rw [← HOO.out] at h2 ⊢
  have HOB := Lib.hid h2
  have s0 : w2.cell? ⟨w.heap.size, 0, none⟩ = some (.slice a l.length cap) := cell_of_blk h1 rfl
  have hsb := cell_lt s0
  clear h1 h2 hl
  obtain ⟨N, HN⟩ : ∃ N, Hid (N = w2.heap.size) := ⟨_, Lib.hid rfl⟩
  go_wp2_with fail
  clear s0 hsb
  go_loopw [5, 13] (fun v i wr => ∃ (j n : Nat) (xs : List Value) (oa : Option Addr) (oc : Nat), j ≤ l.length ∧ i = .int .i64 j ∧ v = .slice oa n oc ∧ Hid (n = (minusL (l.take j) m).length) ∧ Hid (n ≤ j) ∧ Hid (Below N w2 wr) ∧ Hid (wr.ownsRow N 48 4 v n xs)) (fun _ i _ => l.length - (intOf i).toNat)
  case atStart => exact ⟨0, 0, [], none, 0, Nat.zero_le _, rfl, rfl, Lib.hid rfl, Lib.hid (Nat.le_refl _), Lib.hid (Below.refl _ _), Lib.hid (World.ownsRow_nil _ _ _ _)⟩
  case round =>
    obtain ⟨j, n, xs, oa, oc, hj, rfl, rfl, HNL, HNJ, HB, HO⟩ := hrel
    have HBW := Lib.hid (show Below w2.heap.size w2 wr by rw [← HN.out]; exact HB.out)
    have HNW := Lib.hid (show N ≤ wr.heap.size by rw [HN.out]; exact HBW.out.size)
    have HMW := Lib.hid (more_trans HM2.out (more_of HBW.out))
    by_cases hlt : j < l.length
    · obtain ⟨b, off, rfl, _, hc⟩ := HR.out.atC chC_len hlt
      have g0 := HMW.out.cell (hc 0 (.int .u8 l[j].k.kind) rfl)
      have g1 := HMW.out.cell (hc 1 (.int .i64 l[j].k.a) rfl)
      have g2 := HMW.out.cell (hc 2 (.int .i64 l[j].k.b) rfl)
      have g3 := HMW.out.cell (hc 3 (.int .i64 l[j].k.n) rfl)
      have g4 := HMW.out.cell (hc 4 (.int .i64 l[j].t) rfl)
      have g5 := HMW.out.cell (hc 5 (.int .i64 0) rfl)
      have g6 := HMW.out.cell (hc 6 (.slice none 0 0) rfl)
      rw [Nat.add_zero] at g0
      clear hc
      have HST := Lib.hid (minus_step l m j hlt)
      have HLT := Lib.hid hlt
      generalize l[j] = x at *
      have hbg := cell_lt g0
      have HXB := Lib.hid (alloc_last wr (.cells #[.int .u8 x.k.kind, .int .i64 x.k.a, .int .i64 x.k.b, .int .i64 x.k.n, .int .i64 x.t, .int .i64 0, .slice none 0 0] 113))
      have HMX := Lib.hid (more_alloc wr (.cells #[.int .u8 x.k.kind, .int .i64 x.k.a, .int .i64 x.k.b, .int .i64 x.k.n, .int .i64 x.t, .int .i64 0, .slice none 0 0] 113))
      have HUP := Lib.hid (show ∀ W, More wr W → Below N w2 W ∧ N ≤ W.heap.size ∧ W.ownsRow N 48 4 (.slice oa n oc) n xs ∧ W.heap[OB]? = some (.cells #[.slice a' m.length cap'] 73) from fun W h => ⟨HB.out.trans (h.below.mono HNW.out), Nat.le_trans HNW.out h.size, owns_keep HO.out (fun z hz => h.block ((owns_shape HO.out).choose_spec.choose_spec.2 z hz).2), ((more_trans (more_of HBW.out) h).block (blk_lt HOB.out)).trans HOB.out⟩)
      have HMX0 := HMX
      go_upto_region 5 with (fail)
      clear g0 g1 g2 g3 g4 g5 g6 hbg
      generalize wr.alloc (.cells #[.int .u8 x.k.kind, .int .i64 x.k.a, .int .i64 x.k.b, .int .i64 x.k.n, .int .i64 x.t, .int .i64 0, .slice none 0 0] 113) = w3 at *
      generalize wr.heap.size = XB at *
      have c0 : w3.cell? ⟨XB, 0, none⟩ = some (.int .u8 x.k.kind) := cell_of_blk HXB.out rfl
      have c1 : w3.cell? ⟨XB, 1, none⟩ = some (.int .i64 x.k.a) := cell_of_blk HXB.out rfl
      have c2 : w3.cell? ⟨XB, 2, none⟩ = some (.int .i64 x.k.b) := cell_of_blk HXB.out rfl
      have c3 : w3.cell? ⟨XB, 3, none⟩ = some (.int .i64 x.k.n) := cell_of_blk HXB.out rfl
      have c4 : w3.cell? ⟨XB, 4, none⟩ = some (.int .i64 x.t) := cell_of_blk HXB.out rfl
      have c5 : w3.cell? ⟨XB, 5, none⟩ = some (.int .i64 0) := cell_of_blk HXB.out rfl
      have c6 : w3.cell? ⟨XB, 6, none⟩ = some (.slice none 0 0) := cell_of_blk HXB.out rfl
      have o0 : w3.cell? ⟨OB, 0, none⟩ = some (.slice a' m.length cap') := cell_of_blk (HUP.out _ HMX.out).2.2.2 rfl
      have hxb := cell_lt c0
      have hob := cell_lt o0
      go_wp2_with fail
      refine (HFD.out x _ (more_trans HMW.out HMX.out)).mono ?_
      rintro e w4 ⟨⟨p, hp, rfl⟩, hl4⟩
      have HMP := Lib.hid (mem_place HASC.out x hp)
      have HM4 := Lib.hid (more_trans HMX.out hl4.1)
      have HXB4 := Lib.hid ((hl4.1.block (blk_lt HXB.out)).trans HXB.out)
      clear hl4 hp c0 c1 c2 c3 c4 c5 c6 o0 hxb hob
      obtain ⟨z, hz⟩ : ∃ z, (m[p]?.map (·.k) == some x.k) = z := ⟨_, rfl⟩
      rw [hz]
      obtain ⟨q, HQ⟩ : ∃ q, Hid (decide (x ∈ m) = q) := ⟨_, Lib.hid rfl⟩
      rw [HQ.out] at HST HMP
      go_upto_region 6 with (fail)
      go_cut [35] (fun s wx => s = .bool (!q) ∧ Hid (More w4 wx))
      case first =>
        cases z with
        | false =>
          have HQF := Lib.hid (show q = false by
            rw [HMP.out]
            cases e : m[p]? with
            | none => rfl
            | some y =>
              rw [e] at hz
              simp only [Option.map_some] at hz
              have : (y.k == x.k) = false := by
                rw [beq_eq_false_iff_ne]
                intro e'
                rw [e'] at hz; simp at hz
              simp [this])
          clear hz
          go_quiet (fail)
          go_wp2_with fail
          go_meet
          case rel => exact ⟨by rw [HQF.out]; rfl, Lib.hid (grownBy_drewN w4 nq none)⟩
        | true =>
          have hin : p < m.length := by
            by_cases h : p < m.length
            · exact h
            · rw [List.getElem?_eq_none (by omega)] at hz; simp at hz
          have hk : m[p].k = x.k := by rw [List.getElem?_eq_getElem hin] at hz; simpa using hz
          rw [List.getElem?_eq_getElem hin] at HMP
          obtain ⟨b', off', rfl, _, hc⟩ := HS.out.atC chC_len hin
          have HMS := Lib.hid (more_trans HMW.out HM4.out)
          have e0 := HMS.out.cell (hc 0 (.int .u8 m[p].k.kind) rfl)
          have e1 := HMS.out.cell (hc 1 (.int .i64 m[p].k.a) rfl)
          have e2 := HMS.out.cell (hc 2 (.int .i64 m[p].k.b) rfl)
          have e3 := HMS.out.cell (hc 3 (.int .i64 m[p].k.n) rfl)
          have e4 := HMS.out.cell (hc 4 (.int .i64 m[p].t) rfl)
          have e5 := HMS.out.cell (hc 5 (.int .i64 0) rfl)
          have e6 := HMS.out.cell (hc 6 (.slice none 0 0) rfl)
          rw [Nat.add_zero] at e0
          clear hc
          have HQE := Lib.hid (show q = decide (x = m[p]) by rw [HMP.out]; simp [hk])
          clear hz hk
          generalize m[p] = y at *
          have HC := Lib.hid (show ∀ W, Calls Try.prog 163 #[.agg #[.int .u8 x.k.kind, .int .i64 x.k.a, .int .i64 x.k.b, .int .i64 x.k.n, .int .i64 x.t, .int .i64 0, .slice none 0 0], .agg #[.int .u8 y.k.kind, .int .i64 y.k.a, .int .i64 y.k.b, .int .i64 y.k.n, .int .i64 y.t, .int .i64 0, .slice none 0 0]] W fun e w' => e = .returned (.bool q) ∧ Lay W w' from fun W => by rw [HQE.out]; exact sameCh_any x y W)
          have c0 : w4.cell? ⟨XB, 0, none⟩ = some (.int .u8 x.k.kind) := cell_of_blk HXB4.out rfl
          have c1 : w4.cell? ⟨XB, 1, none⟩ = some (.int .i64 x.k.a) := cell_of_blk HXB4.out rfl
          have c2 : w4.cell? ⟨XB, 2, none⟩ = some (.int .i64 x.k.b) := cell_of_blk HXB4.out rfl
          have c3 : w4.cell? ⟨XB, 3, none⟩ = some (.int .i64 x.k.n) := cell_of_blk HXB4.out rfl
          have c4 : w4.cell? ⟨XB, 4, none⟩ = some (.int .i64 x.t) := cell_of_blk HXB4.out rfl
          have c5 : w4.cell? ⟨XB, 5, none⟩ = some (.int .i64 0) := cell_of_blk HXB4.out rfl
          have c6 : w4.cell? ⟨XB, 6, none⟩ = some (.slice none 0 0) := cell_of_blk HXB4.out rfl
          have o0 : w4.cell? ⟨OB, 0, none⟩ = some (.slice (some ⟨b', off', none⟩) m.length cap') := cell_of_blk (HUP.out _ HM4.out).2.2.2 rfl
          have hxb := cell_lt c0
          have hob := cell_lt o0
          have hyb := cell_lt e0
          have HK := Lib.hid (show ∀ W, More w4 W → (W.cell? ⟨OB, 0, none⟩ = some (.slice (some ⟨b', off', none⟩) m.length cap') ∧ W.cell? ⟨XB, 0, none⟩ = some (.int .u8 x.k.kind) ∧ W.cell? ⟨XB, 1, none⟩ = some (.int .i64 x.k.a) ∧ W.cell? ⟨XB, 2, none⟩ = some (.int .i64 x.k.b) ∧ W.cell? ⟨XB, 3, none⟩ = some (.int .i64 x.k.n) ∧ W.cell? ⟨XB, 4, none⟩ = some (.int .i64 x.t) ∧ W.cell? ⟨XB, 5, none⟩ = some (.int .i64 0) ∧ W.cell? ⟨XB, 6, none⟩ = some (.slice none 0 0) ∧ W.cell? ⟨b', off' + p * 7, none⟩ = some (.int .u8 y.k.kind) ∧ W.cell? ⟨b', off' + p * 7 + 1, none⟩ = some (.int .i64 y.k.a) ∧ W.cell? ⟨b', off' + p * 7 + 2, none⟩ = some (.int .i64 y.k.b) ∧ W.cell? ⟨b', off' + p * 7 + 3, none⟩ = some (.int .i64 y.k.n) ∧ W.cell? ⟨b', off' + p * 7 + 4, none⟩ = some (.int .i64 y.t) ∧ W.cell? ⟨b', off' + p * 7 + 5, none⟩ = some (.int .i64 0) ∧ W.cell? ⟨b', off' + p * 7 + 6, none⟩ = some (.slice none 0 0)) from fun W h => ⟨h.cell o0, h.cell c0, h.cell c1, h.cell c2, h.cell c3, h.cell c4, h.cell c5, h.cell c6, h.cell e0, h.cell e1, h.cell e2, h.cell e3, h.cell e4, h.cell e5, h.cell e6⟩)
          have HL := Lib.hid (more_drew w4)
          go_region_held3 (fun W => W.cell? ⟨OB, 0, none⟩ = some (.slice (some ⟨b', off', none⟩) m.length cap') ∧ W.cell? ⟨XB, 0, none⟩ = some (.int .u8 x.k.kind) ∧ W.cell? ⟨XB, 1, none⟩ = some (.int .i64 x.k.a) ∧ W.cell? ⟨XB, 2, none⟩ = some (.int .i64 x.k.b) ∧ W.cell? ⟨XB, 3, none⟩ = some (.int .i64 x.k.n) ∧ W.cell? ⟨XB, 4, none⟩ = some (.int .i64 x.t) ∧ W.cell? ⟨XB, 5, none⟩ = some (.int .i64 0) ∧ W.cell? ⟨XB, 6, none⟩ = some (.slice none 0 0) ∧ W.cell? ⟨b', off' + p * 7, none⟩ = some (.int .u8 y.k.kind) ∧ W.cell? ⟨b', off' + p * 7 + 1, none⟩ = some (.int .i64 y.k.a) ∧ W.cell? ⟨b', off' + p * 7 + 2, none⟩ = some (.int .i64 y.k.b) ∧ W.cell? ⟨b', off' + p * 7 + 3, none⟩ = some (.int .i64 y.k.n) ∧ W.cell? ⟨b', off' + p * 7 + 4, none⟩ = some (.int .i64 y.t) ∧ W.cell? ⟨b', off' + p * 7 + 5, none⟩ = some (.int .i64 0) ∧ W.cell? ⟨b', off' + p * 7 + 6, none⟩ = some (.slice none 0 0)) (first | with_reducible exact HK.out _ HL.out) (first | (go_at_call 163; refine (HC.out _).mono ?_; rintro e w5 ⟨rfl, hl5⟩; have HL := Lib.hid (more_trans HL.out hl5.1); clear hl5))
          all_goals
            go_wp2_with fail
            go_meet
            case rel => exact ⟨rfl, HL⟩
      case rest =>
        obtain ⟨rfl, HMc⟩ := hcut
        clear hz
        have HMC := Lib.hid (more_trans HM4.out HMc.out)
        have hln := HLL.out
        have hlt := HLT.out
        have HXC := Lib.hid ((HMc.out.block (blk_lt HXB4.out)).trans HXB4.out)
        cases q with
        | true =>
          go_wp2_with fail
          go_roundw
          case rel => exact ⟨j + 1, n, xs, oa, oc, by have := HLT.out; omega, by go_num, rfl, Lib.hid (by rw [HST.out, HNL.out]; rfl), Lib.hid (by have := HNJ.out; omega), Lib.hid (HUP.out _ HMC.out).1, Lib.hid (HUP.out _ HMC.out).2.2.1⟩
          case measure => simp [intOf]; have := HLT.out; omega
        | false =>
          have HU := Lib.hid (HUP.out _ HMC.out)
          obtain ⟨w6, rfl⟩ : ∃ w6 : World, w6 = wc := ⟨_, rfl⟩
          have c0 : w6.cell? ⟨XB, 0, none⟩ = some (.int .u8 x.k.kind) := cell_of_blk HXC.out rfl
          have c1 : w6.cell? ⟨XB, 1, none⟩ = some (.int .i64 x.k.a) := cell_of_blk HXC.out rfl
          have c2 : w6.cell? ⟨XB, 2, none⟩ = some (.int .i64 x.k.b) := cell_of_blk HXC.out rfl
          have c3 : w6.cell? ⟨XB, 3, none⟩ = some (.int .i64 x.k.n) := cell_of_blk HXC.out rfl
          have hxb := cell_lt c0
          have hm1 : n + 1 ≤ maxLen := by unfold maxLen; have := HNJ.out; have := HLL.out; omega
          have hm2 : (n + 1) * 32 ≤ 140737488355328 := by have := HNJ.out; have := HLL.out; omega
          have hnd := HU.out.2.1
          go_wp2_with (at_builtin; refine wpList_append_own _ rfl _ _ 27 rfl N 48 i0 _ 4 32 Try.underlying27 hi0 hz0 hz1 hz2 rfl (by omega) (.slice oa n oc) n xs rfl (owns_keep HU.out.2.2.1 (fun z hz => Below.heap_alloc w6 _ _ ((owns_shape HU.out.2.2.1).choose_spec.choose_spec.2 z hz).2)) ⟨w6.heap.size, 0, none⟩ 1 1 [.int .u8 x.k.kind, .int .i64 x.k.a, .int .i64 x.k.b, .int .i64 x.k.n] rfl rfl (World.news_of_block (cs := #[.int .u8 x.k.kind, .int .i64 x.k.a, .int .i64 x.k.b, .int .i64 x.k.n]) (t := 48) (fr := (0, 0)) (alloc_last _ _)) (by simp [Value.oneCell']) hm1 hm2 (by rw [World.size_alloc]; omega) ?_; intro v8 w8 hown8 hgrow8 _)
          have HB8 := Lib.hid ((HU.out.1.alloc hnd _).grown hgrow8 (by rw [World.size_alloc]; omega) (fun z hz => ((owns_shape HU.out.2.2.1).choose_spec.choose_spec.2 z hz).1))
          have HO8 := Lib.hid hown8
          obtain ⟨oa8, oc8, rfl, _⟩ := owns_shape hown8
          clear hown8 hgrow8 c0 c1 c2 c3 hxb
          go_wp2_with fail
          go_roundw
          case rel => exact ⟨j + 1, n + 1, _, _, _, by have := HLT.out; omega, by go_num, rfl, Lib.hid (by rw [HST.out, HNL.out]; rfl), Lib.hid (by have := HNJ.out; omega), HB8, HO8⟩
          case measure => simp [intOf]; have := HLT.out; omega
    · obtain rfl : j = l.length := by omega
      rw [List.take_of_length_le (Nat.le_refl _)] at HNL
      go_wp2_with fail
      go_ret
      exact ⟨⟨oa, oc, by rw [← HNL.out]; rfl⟩, HMW.out⟩
end Go.Proofs.Ytemeppfikpafbaa
