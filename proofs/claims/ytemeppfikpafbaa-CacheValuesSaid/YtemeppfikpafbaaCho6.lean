/- slices.Equal at messages (128), the closure of applies (131), IndexFunc (181), ContainsFunc (130), (Set).Minus (129). -/
import Derived.Test.YtemeppfikpafbaaCho5
namespace Go.Proofs.Ytemeppfikpafbaa
open Go.RowKit
theorem run_neM (x y : M3) (w : World) : (binOp .neq 54 (.agg #[.int .i64 x.f, .int .i64 x.t, .int .i64 x.n]) (.agg #[.int .i64 y.f, .int .i64 y.t, .int .i64 y.n])).run Try.prog w = .ok (.bool (!decide (x = y))) w := by
  have e : decide (x = y) = (decide (x.f = y.f) && (decide (x.t = y.t) && decide (x.n = y.n))) := by
    rw [Bool.eq_iff_iff]
    obtain ⟨a, b, c⟩ := x
    obtain ⟨a', b', c'⟩ := y
    simp
  rw [e]
  go_simp
  by_cases h1 : x.f = y.f <;> by_cases h2 : x.t = y.t <;> by_cases h3 : x.n = y.n <;> simp [h1, h2, h3]
set_option maxRecDepth 100000 in
set_option maxHeartbeats 2000000 in
theorem equalM_any (l m : List M3) (v u : Value) (w : World) (hl : l.length < 4294967296) (hm : m.length < 4294967296) (h : Row anyB w 3 l.length v (flatC mC l)) (k : Row anyB w 3 m.length u (flatC mC m)) :
    Calls Try.prog 128 #[v, u] w fun e w' => e = .returned (.bool (decide (l = m))) ∧ Lay w w' := by
  obtain ⟨a, cap, rfl, _⟩ := h.shape
  obtain ⟨a', cap', rfl, _⟩ := k.shape
  have HR := Lib.hid h; clear h
  have HS := Lib.hid k; clear k
  by_cases hlen : l.length = m.length
  · have HLEN := Lib.hid hlen
    have hne : ((l.length : Int) == (m.length : Int)) = true := by simp [hlen]
    go_enter Try.func128, Try.ntmps128
    rw [← hlen]
    clear hlen hne
    go_wp2_with fail
    go_loopw [13] (fun i wr => ∃ j : Nat, j ≤ l.length ∧ i = .int .i64 j ∧ Hid (Lay w wr) ∧ Hid (l.take j = m.take j)) (fun i _ => l.length - (intOf i).toNat)
    case atStart => exact ⟨0, Nat.zero_le _, rfl, Lib.hid (Lay.refl _), Lib.hid rfl⟩
    case round =>
      obtain ⟨j, hj, rfl, HL, HT⟩ := hrel
      by_cases hlt : j < l.length
      · have hjm : j < m.length := by rw [← HLEN.out]; exact hlt
        obtain ⟨b, off, rfl, _, hc⟩ := HR.out.atC mC_len hlt
        have g0 := HL.out.1.cell (hc 0 (.int .i64 l[j].f) rfl)
        have g1 := HL.out.1.cell (hc 1 (.int .i64 l[j].t) rfl)
        have g2 := HL.out.1.cell (hc 2 (.int .i64 l[j].n) rfl)
        rw [Nat.add_zero] at g0
        clear hc
        obtain ⟨b', off', rfl, _, hc⟩ := HS.out.atC mC_len hjm
        have e0 := HL.out.1.cell (hc 0 (.int .i64 m[j].f) rfl)
        have e1 := HL.out.1.cell (hc 1 (.int .i64 m[j].t) rfl)
        have e2 := HL.out.1.cell (hc 2 (.int .i64 m[j].n) rfl)
        rw [Nat.add_zero] at e0
        clear hc
        have HT1 := Lib.hid (show l.take (j + 1) = l.take j ++ [l[j]] from List.take_succ_eq_append_getElem hlt)
        have HT2 := Lib.hid (show m.take (j + 1) = m.take j ++ [m[j]] from List.take_succ_eq_append_getElem hjm)
        have HNQ := Lib.hid (show l[j] ≠ m[j] → l ≠ m from fun h e => by subst e; exact h rfl)
        generalize l[j] = x at *
        generalize m[j] = y at *
        have hbg := cell_lt g0
        have hbe := cell_lt e0
        have heq := fun W => run_neM x y W
        by_cases hxy : x = y
        · rw [decide_eq_true hxy] at heq
          have HXY := Lib.hid hxy
          clear hxy hjm
          go_upto_region 6 with (fail)
          go_quiet (fail)
          go_wp2_with fail
          go_roundw
          case rel => exact ⟨j + 1, by omega, by go_num, Lib.hid (HL.out.trans (Lay.drewN wr nq)), Lib.hid (by rw [HT1.out, HT2.out, HT.out, HXY.out])⟩
          case measure => simp [intOf]; omega
        · rw [decide_eq_false hxy] at heq
          have HD := Lib.hid (decide_eq_false (HNQ.out hxy))
          clear hxy hjm
          go_upto_region 6 with (fail)
          go_quiet (fail)
          go_wp2_with fail
          go_ret
          exact ⟨by rw [HD.out]; rfl, HL.out.trans (Lay.drewN wr nq)⟩
      · obtain rfl : j = l.length := by omega
        have HD := Lib.hid (show decide (l = m) = true by
          have := HT.out
          rw [List.take_of_length_le (Nat.le_refl _), HLEN.out, List.take_of_length_le (Nat.le_refl _)] at this
          exact decide_eq_true this)
        go_wp2_with fail
        go_ret
        exact ⟨by rw [HD.out]; rfl, HL.out⟩
  · have HD := Lib.hid (show decide (l = m) = false from decide_eq_false fun e => hlen (by rw [e]))
    have hne : ((l.length : Int) == (m.length : Int)) = false := by rw [beq_eq_false_iff_ne]; omega
    obtain ⟨p, hp⟩ : ∃ p, l.length = p := ⟨_, rfl⟩
    obtain ⟨q, hq⟩ : ∃ q, m.length = q := ⟨_, rfl⟩
    rw [hp, hq] at hne ⊢
    have hpq : ¬ p = q := by omega
    clear hp hq hlen hl hm
    go_enter Try.func128, Try.ntmps128
    go_wp2_with fail
    go_ret
    exact ⟨by rw [HD.out]; rfl, Lay.refl _⟩
theorem AscC.get {l : List Ch} (h : AscC l) {x : Ch} (hx : x ∈ l) : getC l x.k = some x := by
  obtain ⟨p, hp, rfl⟩ := List.getElem_of_mem hx
  exact getC_some h hp rfl
/-- x is in the set. -/
theorem getC_iff {l : List Ch} (h : AscC l) (x : Ch) : decide (x ∈ l) = (match getC l x.k with | some y => decide (x = y) | none => false) := by
  cases e : getC l x.k with
  | none =>
    rw [decide_eq_false_iff_not]
    intro hx
    rw [h.get hx] at e; cases e
  | some y =>
    rw [Bool.eq_iff_iff, decide_eq_true_iff, decide_eq_true_iff]
    constructor
    · intro hx
      rw [h.get hx] at e; exact Option.some.inj e
    · rintro rfl
      exact (getC_mem e).1
set_option maxRecDepth 100000 in
set_option maxHeartbeats 2000000 in
theorem clos131_any (l : List Ch) (x : Ch) (v : Value) (SB : Nat) (w : World) (hl : l.length < 4294967296) (hasc : AscC l) (h : Row anyB w 7 l.length v (flatC chC l)) (hb : w.heap[SB]? = some (.cells #[v] 73)) :
    Calls Try.prog 131 #[.agg #[.int .u8 x.k.kind, .int .i64 x.k.a, .int .i64 x.k.b, .int .i64 x.k.n, .int .i64 x.t, .int .i64 0, .slice none 0 0], .pointer (some ⟨SB, 0, none⟩)] w fun e w' => e = .returned (.bool (!decide (x ∈ l))) ∧ Lay w w' := by
  obtain ⟨a, cap, rfl, _⟩ := h.shape
  have HG := Lib.hid (fun W (hW : Lay w W) => get_any l x.k _ W hl hasc (h.below hW.1.below))
  have HSB := Lib.hid hb
  rw [getC_iff hasc x]
  clear h hasc hb hl
  generalize getC l x.k = o at *
  cases o with
  | none =>
    unfold getV at HG
    dsimp only at HG ⊢
    go_enter Try.func131, Try.ntmps131
    go_upto_region 1 with (fail)
    have HXB := Lib.hid (alloc_last w (.cells #[.int .u8 x.k.kind, .int .i64 x.k.a, .int .i64 x.k.b, .int .i64 x.k.n, .int .i64 x.t, .int .i64 0, .slice none 0 0] 113))
    have HL1 := Lib.hid (Lay.alloc w (.cells #[.int .u8 x.k.kind, .int .i64 x.k.a, .int .i64 x.k.b, .int .i64 x.k.n, .int .i64 x.t, .int .i64 0, .slice none 0 0] 113))
    have HSB1 := Lib.hid ((HL1.out.1.block (blk_lt HSB.out)).trans HSB.out)
    generalize w.alloc (.cells #[.int .u8 x.k.kind, .int .i64 x.k.a, .int .i64 x.k.b, .int .i64 x.k.n, .int .i64 x.t, .int .i64 0, .slice none 0 0] 113) = w1 at *
    generalize w.heap.size = XB at *
    have c0 : w1.cell? ⟨XB, 0, none⟩ = some (.int .u8 x.k.kind) := cell_of_blk HXB.out rfl
    have c1 : w1.cell? ⟨XB, 1, none⟩ = some (.int .i64 x.k.a) := cell_of_blk HXB.out rfl
    have c2 : w1.cell? ⟨XB, 2, none⟩ = some (.int .i64 x.k.b) := cell_of_blk HXB.out rfl
    have c3 : w1.cell? ⟨XB, 3, none⟩ = some (.int .i64 x.k.n) := cell_of_blk HXB.out rfl
    have c4 : w1.cell? ⟨XB, 4, none⟩ = some (.int .i64 x.t) := cell_of_blk HXB.out rfl
    have c5 : w1.cell? ⟨XB, 5, none⟩ = some (.int .i64 0) := cell_of_blk HXB.out rfl
    have c6 : w1.cell? ⟨XB, 6, none⟩ = some (.slice none 0 0) := cell_of_blk HXB.out rfl
    have s0 : w1.cell? ⟨SB, 0, none⟩ = some (.slice a l.length cap) := cell_of_blk HSB1.out rfl
    have hsb := cell_lt s0
    go_wp2_with fail
    refine (HG.out _ HL1.out).mono ?_
    rintro e w2 ⟨rfl, hl2⟩
    have HL2 := Lib.hid (HL1.out.trans hl2)
    have HXB2 := Lib.hid ((hl2.1.block (blk_lt HXB.out)).trans HXB.out)
    clear hl2 c0 c1 c2 c3 c4 c5 c6 s0 hsb HXB HSB1 HG
    go_wp2_with fail
    go_ret
    exact ⟨rfl, HL2.out.trans (Lay.alloc _ _)⟩
  | some y =>
    unfold getV at HG
    dsimp only at HG ⊢
    have HE := Lib.hid (show ∀ W, Calls Try.prog 132 #[.agg #[.int .u8 x.k.kind, .int .i64 x.k.a, .int .i64 x.k.b, .int .i64 x.k.n, .int .i64 x.t, .int .i64 0, .slice none 0 0], .agg #[.int .u8 y.k.kind, .int .i64 y.k.a, .int .i64 y.k.b, .int .i64 y.k.n, .int .i64 y.t, .int .i64 0, .slice none 0 0]] W fun e w' => e = .returned (.bool (decide (x = y))) ∧ Lay W w' from fun W => equalCh_any x y W)
    generalize decide (x = y) = q at *
    go_enter Try.func131, Try.ntmps131
    go_upto_region 1 with (fail)
    have HXB := Lib.hid (alloc_last w (.cells #[.int .u8 x.k.kind, .int .i64 x.k.a, .int .i64 x.k.b, .int .i64 x.k.n, .int .i64 x.t, .int .i64 0, .slice none 0 0] 113))
    have HL1 := Lib.hid (Lay.alloc w (.cells #[.int .u8 x.k.kind, .int .i64 x.k.a, .int .i64 x.k.b, .int .i64 x.k.n, .int .i64 x.t, .int .i64 0, .slice none 0 0] 113))
    have HSB1 := Lib.hid ((HL1.out.1.block (blk_lt HSB.out)).trans HSB.out)
    generalize w.alloc (.cells #[.int .u8 x.k.kind, .int .i64 x.k.a, .int .i64 x.k.b, .int .i64 x.k.n, .int .i64 x.t, .int .i64 0, .slice none 0 0] 113) = w1 at *
    generalize w.heap.size = XB at *
    have c0 : w1.cell? ⟨XB, 0, none⟩ = some (.int .u8 x.k.kind) := cell_of_blk HXB.out rfl
    have c1 : w1.cell? ⟨XB, 1, none⟩ = some (.int .i64 x.k.a) := cell_of_blk HXB.out rfl
    have c2 : w1.cell? ⟨XB, 2, none⟩ = some (.int .i64 x.k.b) := cell_of_blk HXB.out rfl
    have c3 : w1.cell? ⟨XB, 3, none⟩ = some (.int .i64 x.k.n) := cell_of_blk HXB.out rfl
    have c4 : w1.cell? ⟨XB, 4, none⟩ = some (.int .i64 x.t) := cell_of_blk HXB.out rfl
    have c5 : w1.cell? ⟨XB, 5, none⟩ = some (.int .i64 0) := cell_of_blk HXB.out rfl
    have c6 : w1.cell? ⟨XB, 6, none⟩ = some (.slice none 0 0) := cell_of_blk HXB.out rfl
    have s0 : w1.cell? ⟨SB, 0, none⟩ = some (.slice a l.length cap) := cell_of_blk HSB1.out rfl
    have hsb := cell_lt s0
    go_wp2_with fail
    refine (HG.out _ HL1.out).mono ?_
    rintro e w2 ⟨rfl, hl2⟩
    have HL2 := Lib.hid (HL1.out.trans hl2)
    have HXB2 := Lib.hid ((hl2.1.block (blk_lt HXB.out)).trans HXB.out)
    clear hl2 c0 c1 c2 c3 c4 c5 c6 s0 hsb HXB HSB1 HG
    have HYB := Lib.hid (alloc_last w2 (.cells #[.int .u8 y.k.kind, .int .i64 y.k.a, .int .i64 y.k.b, .int .i64 y.k.n, .int .i64 y.t, .int .i64 0, .slice none 0 0] 113))
    have HL3 := Lib.hid (Lay.alloc w2 (.cells #[.int .u8 y.k.kind, .int .i64 y.k.a, .int .i64 y.k.b, .int .i64 y.k.n, .int .i64 y.t, .int .i64 0, .slice none 0 0] 113))
    have HXB3 := Lib.hid ((HL3.out.1.block (blk_lt HXB2.out)).trans HXB2.out)
    go_upto_region 2 with (fail)
    generalize w2.alloc (.cells #[.int .u8 y.k.kind, .int .i64 y.k.a, .int .i64 y.k.b, .int .i64 y.k.n, .int .i64 y.t, .int .i64 0, .slice none 0 0] 113) = w3 at *
    generalize w2.heap.size = YB at *
    have c0 : w3.cell? ⟨XB, 0, none⟩ = some (.int .u8 x.k.kind) := cell_of_blk HXB3.out rfl
    have c1 : w3.cell? ⟨XB, 1, none⟩ = some (.int .i64 x.k.a) := cell_of_blk HXB3.out rfl
    have c2 : w3.cell? ⟨XB, 2, none⟩ = some (.int .i64 x.k.b) := cell_of_blk HXB3.out rfl
    have c3 : w3.cell? ⟨XB, 3, none⟩ = some (.int .i64 x.k.n) := cell_of_blk HXB3.out rfl
    have c4 : w3.cell? ⟨XB, 4, none⟩ = some (.int .i64 x.t) := cell_of_blk HXB3.out rfl
    have c5 : w3.cell? ⟨XB, 5, none⟩ = some (.int .i64 0) := cell_of_blk HXB3.out rfl
    have c6 : w3.cell? ⟨XB, 6, none⟩ = some (.slice none 0 0) := cell_of_blk HXB3.out rfl
    have d0 : w3.cell? ⟨YB, 0, none⟩ = some (.int .u8 y.k.kind) := cell_of_blk HYB.out rfl
    have d1 : w3.cell? ⟨YB, 1, none⟩ = some (.int .i64 y.k.a) := cell_of_blk HYB.out rfl
    have d2 : w3.cell? ⟨YB, 2, none⟩ = some (.int .i64 y.k.b) := cell_of_blk HYB.out rfl
    have d3 : w3.cell? ⟨YB, 3, none⟩ = some (.int .i64 y.k.n) := cell_of_blk HYB.out rfl
    have d4 : w3.cell? ⟨YB, 4, none⟩ = some (.int .i64 y.t) := cell_of_blk HYB.out rfl
    have d5 : w3.cell? ⟨YB, 5, none⟩ = some (.int .i64 0) := cell_of_blk HYB.out rfl
    have d6 : w3.cell? ⟨YB, 6, none⟩ = some (.slice none 0 0) := cell_of_blk HYB.out rfl
    have hxb := cell_lt c0
    have hyb := cell_lt d0
    go_wp2_with fail
    refine (HE.out _).mono ?_
    rintro e w4 ⟨rfl, hl4⟩
    have HL4 := Lib.hid (HL2.out.trans (HL3.out.trans hl4))
    clear hl4 c0 c1 c2 c3 c4 c5 c6 d0 d1 d2 d3 d4 d5 d6 hxb hyb
    go_wp2_with fail
    go_ret
    exact ⟨rfl, HL4.out⟩
set_option maxRecDepth 100000 in
set_option maxHeartbeats 1000000 in
theorem indexC_any (l : List Ch) (p : Ch → Bool) (v : Value) (B : Addr) (w : World) (hl : l.length < 1000000) (h : Row anyB w 7 l.length v (flatC chC l))
    (hcl : ∀ x ∈ l, ∀ W, More w W → Calls Try.prog 131 #[.agg #[.int .u8 x.k.kind, .int .i64 x.k.a, .int .i64 x.k.b, .int .i64 x.k.n, .int .i64 x.t, .int .i64 0, .slice none 0 0], .pointer (some B)] W fun e w' => e = .returned (.bool (p x)) ∧ More W w') :
    Calls Try.prog 181 #[v, .func (.func 131) #[] #[.pointer (some B)]] w fun e w' => (∃ i : Int, e = .returned (.int .i64 i) ∧ decide (0 ≤ i) = l.any p) ∧ More w w' := by
  obtain ⟨a, cap, rfl, _⟩ := h.shape
  have HR := Lib.hid h; clear h
  have HCL := Lib.hid hcl; clear hcl
  go_enter Try.func181, Try.ntmps181
  go_wp2_with fail
  go_loopw [8] (fun i wr => ∃ j : Nat, j ≤ l.length ∧ i = .int .i64 j ∧ Hid (More w wr) ∧ Hid ((l.take j).any p = false)) (fun i _ => l.length - (intOf i).toNat)
  case atStart => exact ⟨0, Nat.zero_le _, rfl, Lib.hid (World.grownBy.refl _ _), Lib.hid (by simp)⟩
  case round =>
    obtain ⟨j, hj, rfl, HM, HN⟩ := hrel
    by_cases hlt : j < l.length
    · obtain ⟨b, off, rfl, _, hc⟩ := HR.out.atC chC_len hlt
      have g0 := HM.out.cell (hc 0 (.int .u8 l[j].k.kind) rfl)
      have g1 := HM.out.cell (hc 1 (.int .i64 l[j].k.a) rfl)
      have g2 := HM.out.cell (hc 2 (.int .i64 l[j].k.b) rfl)
      have g3 := HM.out.cell (hc 3 (.int .i64 l[j].k.n) rfl)
      have g4 := HM.out.cell (hc 4 (.int .i64 l[j].t) rfl)
      have g5 := HM.out.cell (hc 5 (.int .i64 0) rfl)
      have g6 := HM.out.cell (hc 6 (.slice none 0 0) rfl)
      rw [Nat.add_zero] at g0
      clear hc
      have HT := Lib.hid (show l.take (j + 1) = l.take j ++ [l[j]] from List.take_succ_eq_append_getElem hlt)
      have HX := Lib.hid (HCL.out l[j] (List.getElem_mem hlt))
      have HANY := Lib.hid (show p l[j] = true → l.any p = true from fun h => List.any_eq_true.2 ⟨_, List.getElem_mem hlt, h⟩)
      generalize l[j] = x at *
      obtain ⟨q, HQ⟩ : ∃ q, Hid (p x = q) := ⟨_, Lib.hid rfl⟩
      rw [HQ.out] at HX HANY
      have hbg := cell_lt g0
      go_wp2_with fail
      refine (HX.out _ HM.out).mono ?_
      rintro e w2 ⟨rfl, hm2⟩
      have HM2 := Lib.hid (more_trans HM.out hm2)
      clear hm2 g0 g1 g2 g3 g4 g5 g6 hbg
      cases q with
      | true =>
        go_wp2_with fail
        go_ret
        exact ⟨⟨j, rfl, by rw [HANY.out (by simp), decide_eq_true_iff]; omega⟩, HM2.out⟩
      | false =>
        go_wp2_with fail
        go_roundw
        case rel => exact ⟨j + 1, by omega, by go_num, HM2, Lib.hid (by rw [HT.out, List.any_append, HN.out]; simp [HQ.out])⟩
        case measure => simp [intOf]; omega
    · obtain rfl : j = l.length := by omega
      rw [List.take_of_length_le (Nat.le_refl _)] at HN
      go_wp2_with fail
      go_ret
      exact ⟨⟨-1, rfl, by rw [HN.out]; rfl⟩, HM.out⟩
set_option maxRecDepth 100000 in
theorem containsC_any (l : List Ch) (p : Ch → Bool) (v : Value) (B : Addr) (w : World) (hl : l.length < 1000000) (h : Row anyB w 7 l.length v (flatC chC l))
    (hcl : ∀ x ∈ l, ∀ W, More w W → Calls Try.prog 131 #[.agg #[.int .u8 x.k.kind, .int .i64 x.k.a, .int .i64 x.k.b, .int .i64 x.k.n, .int .i64 x.t, .int .i64 0, .slice none 0 0], .pointer (some B)] W fun e w' => e = .returned (.bool (p x)) ∧ More W w') :
    Calls Try.prog 130 #[v, .func (.func 131) #[] #[.pointer (some B)]] w fun e w' => e = .returned (.bool (l.any p)) ∧ More w w' := by
  obtain ⟨a, cap, rfl, _⟩ := h.shape
  have HI := Lib.hid (indexC_any l p _ B w hl h hcl)
  clear h hcl
  go_enter Try.func130, Try.ntmps130
  go_wp2_with fail
  refine HI.out.mono ?_
  rintro e w2 ⟨⟨i, rfl, hi⟩, hm⟩
  have HM := Lib.hid hm
  have HD := Lib.hid hi
  clear hm hi
  go_wp2_with fail
  go_ret
  exact ⟨by rw [← HD.out]; rfl, HM.out⟩
end Go.Proofs.Ytemeppfikpafbaa
