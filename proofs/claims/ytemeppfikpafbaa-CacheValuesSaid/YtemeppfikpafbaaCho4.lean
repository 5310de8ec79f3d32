/- (choice.Set).find$1 (149), slices.BinarySearchFunc (148), find (98), Get (83). -/
import Derived.Test.YtemeppfikpafbaaCho3
namespace Go.Proofs.Ytemeppfikpafbaa
open Go.RowKit
set_option maxRecDepth 10000 in
theorem findCmp_any (x : Ch) (k : K4) (w : World) : Calls Try.prog 149 #[.agg #[.int .u8 x.k.kind, .int .i64 x.k.a, .int .i64 x.k.b, .int .i64 x.k.n, .int .i64 x.t, .int .i64 0, .slice none 0 0], .agg #[.int .u8 k.kind, .int .i64 k.a, .int .i64 k.b, .int .i64 k.n]] w fun e w' => e = .returned (.int .i64 (cmpK4 x.k k)) ∧ Lay w w' := by
  have HC := Lib.hid (fun w => compareK_any x.k k w)
  unfold kA at HC
  generalize cmpK4 x.k k = c at *
  go_enter Try.func149, Try.ntmps149
  go_wp2_with fail
  refine (HC.out _).mono ?_
  rintro e w2 ⟨rfl, hl2⟩
  have HM := Lib.hid (((Lay.alloc _ _).trans (Lay.alloc _ _)).trans hl2)
  clear hl2
  go_wp2_with fail
  go_ret
  exact ⟨rfl, HM.out⟩
/-- p is the place of the key k. -/
def PlaceC (l : List Ch) (k : K4) (p : Nat) : Prop := p ≤ l.length ∧ (∀ i (h : i < l.length), i < p → cmpK4 l[i].k k < 0) ∧ ∀ i (h : i < l.length), p ≤ i → 0 ≤ cmpK4 l[i].k k
theorem cmpK4_zero (x y : K4) : cmpK4 x y = 0 ↔ x = y := by
  constructor
  · intro h
    refine ltK_tri (fun e => ?_) (fun e => ?_)
    · have := (cmpK4_neg x y).2 e; omega
    · unfold ltK at e
      unfold cmpK4 at h
      rw [orI_zero, orI_zero, orI_zero, orI_zero, cmpI_zero, cmpI_zero, cmpI_zero, cmpI_zero] at h
      omega
  · rintro rfl
    unfold cmpK4
    rw [orI_zero, orI_zero, orI_zero, orI_zero, cmpI_zero, cmpI_zero, cmpI_zero, cmpI_zero]
    exact ⟨rfl, rfl, rfl, rfl, rfl⟩
theorem AscC.lt_of {l : List Ch} (h : AscC l) {k : K4} {i m : Nat} (hi : i < l.length) (hm : m < l.length) (him : i ≤ m) (hk : cmpK4 l[m].k k < 0) : cmpK4 l[i].k k < 0 := by
  rcases Nat.lt_or_eq_of_le him with h1 | h1
  · have := List.pairwise_iff_getElem.1 h i m hi hm h1
    rw [cmpK4_neg] at hk ⊢
    exact ltK_trans this hk
  · subst h1; exact hk
set_option maxRecDepth 100000 in
set_option maxHeartbeats 4000000 in
theorem search_any (l : List Ch) (k : K4) (v : Value) (w : World) (hl : l.length < 4294967296) (hasc : AscC l) (h : Row anyB w 7 l.length v (flatC chC l)) :
    Calls Try.prog 148 #[v, .agg #[.int .u8 k.kind, .int .i64 k.a, .int .i64 k.b, .int .i64 k.n], .func (.func 149) #[] #[]] w fun e w' => (∃ p, PlaceC l k p ∧ e = .returned (.tuple #[.int .i64 p, .bool (l[p]?.map (·.k) == some k)])) ∧ Lay w w' := by
  obtain ⟨a, cap, rfl, hcap⟩ := h.shape
  have HR := Lib.hid h; clear h
  have HA := Lib.hid hasc; clear hasc
  go_enter Try.func148, Try.ntmps148
  go_wp2_with fail
  have HKB := Lib.hid (alloc_last w (.cells #[.int .u8 k.kind, .int .i64 k.a, .int .i64 k.b, .int .i64 k.n] 48))
  have HL1 := Lib.hid (Lay.alloc w (.cells #[.int .u8 k.kind, .int .i64 k.a, .int .i64 k.b, .int .i64 k.n] 48))
  obtain ⟨KB, HKK⟩ : ∃ KB, Hid (KB = w.heap.size) := ⟨_, Lib.hid rfl⟩
  rw [← HKK.out] at HKB ⊢
  generalize w.alloc (.cells #[.int .u8 k.kind, .int .i64 k.a, .int .i64 k.b, .int .i64 k.n] 48) = w1 at *
  go_loopw [9, 10] (fun i j wr => ∃ lo hi : Nat, lo ≤ hi ∧ hi ≤ l.length ∧ i = .int .i64 lo ∧ j = .int .i64 hi ∧ Hid (Lay w1 wr) ∧ Hid ((∀ i (h : i < l.length), i < lo → cmpK4 l[i].k k < 0) ∧ ∀ i (h : i < l.length), hi ≤ i → 0 ≤ cmpK4 l[i].k k)) (fun i j _ => (intOf j).toNat - (intOf i).toNat)
  case atStart => exact ⟨0, l.length, Nat.zero_le _, Nat.le_refl _, rfl, rfl, Lib.hid (Lay.refl _), Lib.hid ⟨fun _ _ h => absurd h (Nat.not_lt_zero _), fun i h h' => by omega⟩⟩
  case round =>
    obtain ⟨lo, hi, hlo, hhi, rfl, rfl, HLr, HP⟩ := hrel
    have HK4 := Lib.hid (show ∀ W, Lay wr W → W.heap[KB]? = some (.cells #[.int .u8 k.kind, .int .i64 k.a, .int .i64 k.b, .int .i64 k.n] 48) from fun W h => ((HLr.out.trans h).1.block (blk_lt HKB.out)).trans HKB.out)
    have HMW := Lib.hid (HL1.out.trans HLr.out)
    by_cases hlt : lo < hi
    · obtain ⟨m, hm⟩ : ∃ m : Nat, ((lo : Int) + hi) / 2 = m := ⟨(lo + hi) / 2, by omega⟩
      have hml : m < l.length := by omega
      have hm1 : lo ≤ m := by omega
      have hm2 : m < hi := by omega
      obtain ⟨b, off, rfl, _, hc⟩ := HR.out.atC chC_len hml
      have g0 := HMW.out.1.cell (hc 0 (.int .u8 l[m].k.kind) rfl)
      have g1 := HMW.out.1.cell (hc 1 (.int .i64 l[m].k.a) rfl)
      have g2 := HMW.out.1.cell (hc 2 (.int .i64 l[m].k.b) rfl)
      have g3 := HMW.out.1.cell (hc 3 (.int .i64 l[m].k.n) rfl)
      have g4 := HMW.out.1.cell (hc 4 (.int .i64 l[m].t) rfl)
      have g5 := HMW.out.1.cell (hc 5 (.int .i64 0) rfl)
      have g6 := HMW.out.1.cell (hc 6 (.slice none 0 0) rfl)
      rw [Nat.add_zero] at g0
      clear hc
      have HMT := Lib.hid (fun (hk : cmpK4 l[m].k k < 0) i (hi : i < l.length) (him : i ≤ m) => HA.out.lt_of hi hml him hk)
      have HMG := Lib.hid (show 0 ≤ cmpK4 l[m].k k → ∀ i (hi : i < l.length), m ≤ i → 0 ≤ cmpK4 l[i].k k from fun hk i hi him => by
        rcases Int.lt_or_le (cmpK4 l[i].k k) 0 with e | e
        · have := HA.out.lt_of hml hi him e; omega
        · exact e)
      have HC := Lib.hid (fun W => findCmp_any l[m] k W)
      obtain ⟨r, HRR⟩ : ∃ r, Hid (cmpK4 l[m].k k = r) := ⟨_, Lib.hid rfl⟩
      rw [HRR.out] at HC HMT HMG
      generalize l[m] = x at *
      have hbg := cell_lt g0
      have HK := Lib.hid (show ∀ W, Lay wr W → (W.cell? ⟨b, off + m * 7, none⟩ = some (.int .u8 x.k.kind) ∧ W.cell? ⟨b, off + m * 7 + 1, none⟩ = some (.int .i64 x.k.a) ∧ W.cell? ⟨b, off + m * 7 + 2, none⟩ = some (.int .i64 x.k.b) ∧ W.cell? ⟨b, off + m * 7 + 3, none⟩ = some (.int .i64 x.k.n) ∧ W.cell? ⟨b, off + m * 7 + 4, none⟩ = some (.int .i64 x.t) ∧ W.cell? ⟨b, off + m * 7 + 5, none⟩ = some (.int .i64 0) ∧ W.cell? ⟨b, off + m * 7 + 6, none⟩ = some (.slice none 0 0) ∧ W.cell? ⟨KB, 0, none⟩ = some (.int .u8 k.kind) ∧ W.cell? ⟨KB, 1, none⟩ = some (.int .i64 k.a) ∧ W.cell? ⟨KB, 2, none⟩ = some (.int .i64 k.b) ∧ W.cell? ⟨KB, 3, none⟩ = some (.int .i64 k.n)) from fun W h => ⟨h.1.cell g0, h.1.cell g1, h.1.cell g2, h.1.cell g3, h.1.cell g4, h.1.cell g5, h.1.cell g6, cell_of_blk (HK4.out W h) rfl, cell_of_blk (HK4.out W h) rfl, cell_of_blk (HK4.out W h) rfl, cell_of_blk (HK4.out W h) rfl⟩)
      have HL := Lib.hid (Lay.drew wr)
      go_upto_region 5 with (fail)
      clear hm
      obtain ⟨z, HZ⟩ : ∃ z, Hid (decide (r < 0) = z) := ⟨_, Lib.hid rfl⟩
      go_cut [31] (fun s wx => s = .bool z ∧ Hid (Lay wr wx))
      case first =>
        go_region_held3 (fun W => W.cell? ⟨b, off + m * 7, none⟩ = some (.int .u8 x.k.kind) ∧ W.cell? ⟨b, off + m * 7 + 1, none⟩ = some (.int .i64 x.k.a) ∧ W.cell? ⟨b, off + m * 7 + 2, none⟩ = some (.int .i64 x.k.b) ∧ W.cell? ⟨b, off + m * 7 + 3, none⟩ = some (.int .i64 x.k.n) ∧ W.cell? ⟨b, off + m * 7 + 4, none⟩ = some (.int .i64 x.t) ∧ W.cell? ⟨b, off + m * 7 + 5, none⟩ = some (.int .i64 0) ∧ W.cell? ⟨b, off + m * 7 + 6, none⟩ = some (.slice none 0 0) ∧ W.cell? ⟨KB, 0, none⟩ = some (.int .u8 k.kind) ∧ W.cell? ⟨KB, 1, none⟩ = some (.int .i64 k.a) ∧ W.cell? ⟨KB, 2, none⟩ = some (.int .i64 k.b) ∧ W.cell? ⟨KB, 3, none⟩ = some (.int .i64 k.n)) (first | with_reducible exact HK.out _ HL.out) (first | (go_at_call 149; refine (HC.out _).mono ?_; rintro e w3 ⟨rfl, hl3⟩; have HL := Lib.hid (HL.out.trans hl3); clear hl3))
        all_goals
          go_wp2_with fail
          go_meet
          case rel => exact ⟨by rw [← HZ.out], HL⟩
      case rest =>
        obtain ⟨rfl, HLc⟩ := hcut
        clear HL HK HC g0 g1 g2 g3 g4 g5 g6 hbg
        cases z with
        | true =>
          have HH := Lib.hid (HMT.out (of_decide_eq_true HZ.out))
          go_wp2_with fail
          go_roundw
          case rel => exact ⟨m + 1, hi, by omega, hhi, by go_num, rfl, Lib.hid (HLr.out.trans HLc.out), Lib.hid ⟨fun i h h' => HH.out i h (by omega), HP.out.2⟩⟩
          case measure => simp [intOf]; omega
        | false =>
          have HH := Lib.hid (HMG.out (by have := of_decide_eq_false HZ.out; omega))
          go_wp2_with fail
          go_roundw
          case rel => exact ⟨lo, m, hm1, by omega, rfl, rfl, Lib.hid (HLr.out.trans HLc.out), Lib.hid ⟨HP.out.1, fun i h h' => HH.out i h h'⟩⟩
          case measure => simp [intOf]; omega
    · obtain rfl : hi = lo := by omega
      by_cases hin : hi < l.length
      · obtain ⟨b, off, rfl, _, hc⟩ := HR.out.atC chC_len hin
        have g0 := HMW.out.1.cell (hc 0 (.int .u8 l[hi].k.kind) rfl)
        have g1 := HMW.out.1.cell (hc 1 (.int .i64 l[hi].k.a) rfl)
        have g2 := HMW.out.1.cell (hc 2 (.int .i64 l[hi].k.b) rfl)
        have g3 := HMW.out.1.cell (hc 3 (.int .i64 l[hi].k.n) rfl)
        have g4 := HMW.out.1.cell (hc 4 (.int .i64 l[hi].t) rfl)
        have g5 := HMW.out.1.cell (hc 5 (.int .i64 0) rfl)
        have g6 := HMW.out.1.cell (hc 6 (.slice none 0 0) rfl)
        rw [Nat.add_zero] at g0
        clear hc
        have HE := Lib.hid (show (l[hi]?.map (·.k) == some k) = (cmpK4 l[hi].k k == 0) by
          rw [List.getElem?_eq_getElem hin]; simp only [Option.map_some]
          rw [Bool.eq_iff_iff]; simp [cmpK4_zero])
        have HC := Lib.hid (fun W => findCmp_any l[hi] k W)
        obtain ⟨r, HRR⟩ : ∃ r, Hid (cmpK4 l[hi].k k = r) := ⟨_, Lib.hid rfl⟩
        rw [HRR.out] at HC HE
        generalize l[hi] = x at *
        have hbg := cell_lt g0
        have HK := Lib.hid (show ∀ W, Lay wr W → (W.cell? ⟨b, off + hi * 7, none⟩ = some (.int .u8 x.k.kind) ∧ W.cell? ⟨b, off + hi * 7 + 1, none⟩ = some (.int .i64 x.k.a) ∧ W.cell? ⟨b, off + hi * 7 + 2, none⟩ = some (.int .i64 x.k.b) ∧ W.cell? ⟨b, off + hi * 7 + 3, none⟩ = some (.int .i64 x.k.n) ∧ W.cell? ⟨b, off + hi * 7 + 4, none⟩ = some (.int .i64 x.t) ∧ W.cell? ⟨b, off + hi * 7 + 5, none⟩ = some (.int .i64 0) ∧ W.cell? ⟨b, off + hi * 7 + 6, none⟩ = some (.slice none 0 0) ∧ W.cell? ⟨KB, 0, none⟩ = some (.int .u8 k.kind) ∧ W.cell? ⟨KB, 1, none⟩ = some (.int .i64 k.a) ∧ W.cell? ⟨KB, 2, none⟩ = some (.int .i64 k.b) ∧ W.cell? ⟨KB, 3, none⟩ = some (.int .i64 k.n)) from fun W h => ⟨h.1.cell g0, h.1.cell g1, h.1.cell g2, h.1.cell g3, h.1.cell g4, h.1.cell g5, h.1.cell g6, cell_of_blk (HK4.out W h) rfl, cell_of_blk (HK4.out W h) rfl, cell_of_blk (HK4.out W h) rfl, cell_of_blk (HK4.out W h) rfl⟩)
        have HL := Lib.hid (Lay.drew wr)
        go_upto_region 8 with (fail)
        go_region_held3 (fun W => W.cell? ⟨b, off + hi * 7, none⟩ = some (.int .u8 x.k.kind) ∧ W.cell? ⟨b, off + hi * 7 + 1, none⟩ = some (.int .i64 x.k.a) ∧ W.cell? ⟨b, off + hi * 7 + 2, none⟩ = some (.int .i64 x.k.b) ∧ W.cell? ⟨b, off + hi * 7 + 3, none⟩ = some (.int .i64 x.k.n) ∧ W.cell? ⟨b, off + hi * 7 + 4, none⟩ = some (.int .i64 x.t) ∧ W.cell? ⟨b, off + hi * 7 + 5, none⟩ = some (.int .i64 0) ∧ W.cell? ⟨b, off + hi * 7 + 6, none⟩ = some (.slice none 0 0) ∧ W.cell? ⟨KB, 0, none⟩ = some (.int .u8 k.kind) ∧ W.cell? ⟨KB, 1, none⟩ = some (.int .i64 k.a) ∧ W.cell? ⟨KB, 2, none⟩ = some (.int .i64 k.b) ∧ W.cell? ⟨KB, 3, none⟩ = some (.int .i64 k.n)) (first | with_reducible exact HK.out _ HL.out) (first | (go_at_call 149; refine (HC.out _).mono ?_; rintro e w3 ⟨rfl, hl3⟩; have HL := Lib.hid (HL.out.trans hl3); clear hl3))
        all_goals
          go_wp2_with fail
          go_ret2
          exact ⟨⟨hi, ⟨hhi, HP.out⟩, by rw [HE.out]; rfl⟩, HMW.out.trans HL.out⟩
      · have HE := Lib.hid (show (l[hi]?.map (·.k) == some k) = false by rw [List.getElem?_eq_none (by omega)]; rfl)
        go_upto_region 8 with (fail)
        go_quiet (fail)
        go_wp2_with fail
        go_ret2
        exact ⟨⟨hi, ⟨hhi, HP.out⟩, by rw [HE.out]; rfl⟩, HMW.out.trans (Lay.drewN wr nq)⟩
end Go.Proofs.Ytemeppfikpafbaa
