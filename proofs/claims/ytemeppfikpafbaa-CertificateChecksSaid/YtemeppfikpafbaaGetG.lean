/- (choice.Set).find$1 (149), slices.BinarySearchFunc (148), find (98), Get (83), on choices of all kinds. -/
import Derived.Test.YtemeppfikpafbaaSetG
import Derived.Deep.RegionHeld3
namespace Go.Proofs.Ytemeppfikpafbaa
open Go.RowKit
set_option maxRecDepth 10000 in
theorem findCmp_gen (x : GV) (k : K4) (xa : Option Addr) (xc : Nat) (w : World) : Calls Try.prog 149 #[.agg #[.int .u8 x.2.k.kind, .int .i64 x.2.k.a, .int .i64 x.2.k.b, .int .i64 x.2.k.n, .int .i64 x.2.t, .int .i64 x.2.d, .slice xa x.2.l.length xc], .agg #[.int .u8 k.kind, .int .i64 k.a, .int .i64 k.b, .int .i64 k.n]] w fun e w' => e = .returned (.int .i64 (cmpK4 x.2.k k)) ∧ Lay w w' := by
  have HC := Lib.hid (fun w => compareK_any x.2.k k w)
  unfold kA at HC
  generalize cmpK4 x.2.k k = c at *
  go_enter Try.func149, Try.ntmps149
  go_wp2_with fail
  refine (HC.out _).mono ?_
  rintro e w2 ⟨rfl, hl2⟩
  have HM := Lib.hid (((Lay.alloc _ _).trans (Lay.alloc _ _)).trans hl2)
  clear hl2
  go_wp2_with fail
  go_ret
  exact ⟨rfl, HM.out⟩
/-- p is the place of the key k. -/
def PlaceG (l : List GV) (k : K4) (p : Nat) : Prop := p ≤ l.length ∧ (∀ i (h : i < l.length), i < p → cmpK4 l[i].2.k k < 0) ∧ ∀ i (h : i < l.length), p ≤ i → 0 ≤ cmpK4 l[i].2.k k
theorem cmpK4_zeroG (x y : K4) : cmpK4 x y = 0 ↔ x = y := by
  constructor
  · intro h
    refine ltK_tri (fun e => ?_) (fun e => ?_)
    · have := (cmpK4_neg x y).2 e; omega
    · unfold ltK at e
      unfold cmpK4 at h
      rw [orI_zero, orI_zero, orI_zero, orI_zero, cmpI_zero, cmpI_zero, cmpI_zero, cmpI_zero] at h
      omega
  · rintro rfl
    unfold cmpK4
    rw [orI_zero, orI_zero, orI_zero, orI_zero, cmpI_zero, cmpI_zero, cmpI_zero, cmpI_zero]
    exact ⟨rfl, rfl, rfl, rfl, rfl⟩
theorem AscG.lt_of {l : List GV} (h : AscG l) {k : K4} {i m : Nat} (hi : i < l.length) (hm : m < l.length) (him : i ≤ m) (hk : cmpK4 l[m].2.k k < 0) : cmpK4 l[i].2.k k < 0 := by
  rcases Nat.lt_or_eq_of_le him with h1 | h1
  · have := List.pairwise_iff_getElem.1 h i m hi hm h1
    rw [cmpK4_neg] at hk ⊢
    exact ltK_trans this hk
  · subst h1; exact hk
set_option maxRecDepth 100000 in
set_option maxHeartbeats 4000000 in
theorem search_gen (l : List GV) (k : K4) (v : Value) (w : World) (hl : l.length < 4294967296) (hasc : AscG l) (hsh : ∀ p ∈ l, ∃ a c, p.1 = .slice a p.2.l.length c) (h : Row anyB w 7 l.length v (flatC gC l)) :
    Calls Try.prog 148 #[v, .agg #[.int .u8 k.kind, .int .i64 k.a, .int .i64 k.b, .int .i64 k.n], .func (.func 149) #[] #[]] w fun e w' => (∃ p, PlaceG l k p ∧ e = .returned (.tuple #[.int .i64 p, .bool (l[p]?.map (·.2.k) == some k)])) ∧ Lay w w' := by
  obtain ⟨a, cap, rfl, hcap⟩ := h.shape
  have HR := Lib.hid h; clear h
  have HA := Lib.hid hasc; clear hasc
  have HSH := Lib.hid hsh; clear hsh
  go_enter Try.func148, Try.ntmps148
  go_wp2_with fail
  have HKB := Lib.hid (alloc_last w (.cells #[.int .u8 k.kind, .int .i64 k.a, .int .i64 k.b, .int .i64 k.n] 48))
  have HL1 := Lib.hid (Lay.alloc w (.cells #[.int .u8 k.kind, .int .i64 k.a, .int .i64 k.b, .int .i64 k.n] 48))
  obtain ⟨KB, HKK⟩ : ∃ KB, Hid (KB = w.heap.size) := ⟨_, Lib.hid rfl⟩
  rw [← HKK.out] at HKB ⊢
  generalize w.alloc (.cells #[.int .u8 k.kind, .int .i64 k.a, .int .i64 k.b, .int .i64 k.n] 48) = w1 at *
  go_loopw [9, 10] (fun i j wr => ∃ lo hi : Nat, lo ≤ hi ∧ hi ≤ l.length ∧ i = .int .i64 lo ∧ j = .int .i64 hi ∧ Hid (Lay w1 wr) ∧ Hid ((∀ i (h : i < l.length), i < lo → cmpK4 l[i].2.k k < 0) ∧ ∀ i (h : i < l.length), hi ≤ i → 0 ≤ cmpK4 l[i].2.k k)) (fun i j _ => (intOf j).toNat - (intOf i).toNat)
  case atStart => exact ⟨0, l.length, Nat.zero_le _, Nat.le_refl _, rfl, rfl, Lib.hid (Lay.refl _), Lib.hid ⟨fun _ _ h => absurd h (Nat.not_lt_zero _), fun i h h' => by omega⟩⟩
  case round =>
    obtain ⟨lo, hi, hlo, hhi, rfl, rfl, HLr, HP⟩ := hrel
    have HK4 := Lib.hid (show ∀ W, Lay wr W → W.heap[KB]? = some (.cells #[.int .u8 k.kind, .int .i64 k.a, .int .i64 k.b, .int .i64 k.n] 48) from fun W h => ((HLr.out.trans h).1.block (blk_lt HKB.out)).trans HKB.out)
    have HMW := Lib.hid (HL1.out.trans HLr.out)
    by_cases hlt : lo < hi
    · obtain ⟨m, hm⟩ : ∃ m : Nat, ((lo : Int) + hi) / 2 = m := ⟨(lo + hi) / 2, by omega⟩
      have hml : m < l.length := by omega
      have hm1 : lo ≤ m := by omega
      have hm2 : m < hi := by omega
      obtain ⟨b, off, rfl, _, hc⟩ := HR.out.atC gC_len hml
      have g0 := HMW.out.1.cell (hc 0 (.int .u8 l[m].2.k.kind) rfl)
      have g1 := HMW.out.1.cell (hc 1 (.int .i64 l[m].2.k.a) rfl)
      have g2 := HMW.out.1.cell (hc 2 (.int .i64 l[m].2.k.b) rfl)
      have g3 := HMW.out.1.cell (hc 3 (.int .i64 l[m].2.k.n) rfl)
      have g4 := HMW.out.1.cell (hc 4 (.int .i64 l[m].2.t) rfl)
      have g5 := HMW.out.1.cell (hc 5 (.int .i64 l[m].2.d) rfl)
      have g6 := HMW.out.1.cell (hc 6 l[m].1 rfl)
      obtain ⟨xa, xc, hxv⟩ := HSH.out _ (List.getElem_mem hml)
      rw [hxv] at g6
      clear hxv
      rw [Nat.add_zero] at g0
      clear hc
      have HMT := Lib.hid (fun (hk : cmpK4 l[m].2.k k < 0) i (hi : i < l.length) (him : i ≤ m) => HA.out.lt_of hi hml him hk)
      have HMG := Lib.hid (show 0 ≤ cmpK4 l[m].2.k k → ∀ i (hi : i < l.length), m ≤ i → 0 ≤ cmpK4 l[i].2.k k from fun hk i hi him => by
        rcases Int.lt_or_le (cmpK4 l[i].2.k k) 0 with e | e
        · have := HA.out.lt_of hml hi him e; omega
        · exact e)
      have HC := Lib.hid (fun W => findCmp_gen l[m] k xa xc W)
      obtain ⟨r, HRR⟩ : ∃ r, Hid (cmpK4 l[m].2.k k = r) := ⟨_, Lib.hid rfl⟩
      rw [HRR.out] at HC HMT HMG
      generalize l[m] = x at *
      have hbg := cell_lt g0
      have HK := Lib.hid (show ∀ W, Lay wr W → (W.cell? ⟨b, off + m * 7, none⟩ = some (.int .u8 x.2.k.kind) ∧ W.cell? ⟨b, off + m * 7 + 1, none⟩ = some (.int .i64 x.2.k.a) ∧ W.cell? ⟨b, off + m * 7 + 2, none⟩ = some (.int .i64 x.2.k.b) ∧ W.cell? ⟨b, off + m * 7 + 3, none⟩ = some (.int .i64 x.2.k.n) ∧ W.cell? ⟨b, off + m * 7 + 4, none⟩ = some (.int .i64 x.2.t) ∧ W.cell? ⟨b, off + m * 7 + 5, none⟩ = some (.int .i64 x.2.d) ∧ W.cell? ⟨b, off + m * 7 + 6, none⟩ = some (.slice xa x.2.l.length xc) ∧ W.cell? ⟨KB, 0, none⟩ = some (.int .u8 k.kind) ∧ W.cell? ⟨KB, 1, none⟩ = some (.int .i64 k.a) ∧ W.cell? ⟨KB, 2, none⟩ = some (.int .i64 k.b) ∧ W.cell? ⟨KB, 3, none⟩ = some (.int .i64 k.n)) from fun W h => ⟨h.1.cell g0, h.1.cell g1, h.1.cell g2, h.1.cell g3, h.1.cell g4, h.1.cell g5, h.1.cell g6, cell_of_blk (HK4.out W h) rfl, cell_of_blk (HK4.out W h) rfl, cell_of_blk (HK4.out W h) rfl, cell_of_blk (HK4.out W h) rfl⟩)
      have HL := Lib.hid (Lay.drew wr)
      go_upto_region 5 with (fail)
      clear hm
      obtain ⟨z, HZ⟩ : ∃ z, Hid (decide (r < 0) = z) := ⟨_, Lib.hid rfl⟩
      go_cut [31] (fun s wx => s = .bool z ∧ Hid (Lay wr wx))
      case first =>
        go_region_held3 (fun W => W.cell? ⟨b, off + m * 7, none⟩ = some (.int .u8 x.2.k.kind) ∧ W.cell? ⟨b, off + m * 7 + 1, none⟩ = some (.int .i64 x.2.k.a) ∧ W.cell? ⟨b, off + m * 7 + 2, none⟩ = some (.int .i64 x.2.k.b) ∧ W.cell? ⟨b, off + m * 7 + 3, none⟩ = some (.int .i64 x.2.k.n) ∧ W.cell? ⟨b, off + m * 7 + 4, none⟩ = some (.int .i64 x.2.t) ∧ W.cell? ⟨b, off + m * 7 + 5, none⟩ = some (.int .i64 x.2.d) ∧ W.cell? ⟨b, off + m * 7 + 6, none⟩ = some (.slice xa x.2.l.length xc) ∧ W.cell? ⟨KB, 0, none⟩ = some (.int .u8 k.kind) ∧ W.cell? ⟨KB, 1, none⟩ = some (.int .i64 k.a) ∧ W.cell? ⟨KB, 2, none⟩ = some (.int .i64 k.b) ∧ W.cell? ⟨KB, 3, none⟩ = some (.int .i64 k.n)) (first | with_reducible exact HK.out _ HL.out) (first | (go_at_call 149; refine (HC.out _).mono ?_; rintro e w3 ⟨rfl, hl3⟩; have HL := Lib.hid (HL.out.trans hl3); clear hl3))
        all_goals
          go_wp2_with fail
          go_meet
          case rel => exact ⟨by rw [← HZ.out], HL⟩
      case rest =>
        obtain ⟨rfl, HLc⟩ := hcut
        clear HL HK HC g0 g1 g2 g3 g4 g5 g6 hbg
        cases z with
        | true =>
          have HH := Lib.hid (HMT.out (of_decide_eq_true HZ.out))
          go_wp2_with fail
          go_roundw
          case rel => exact ⟨m + 1, hi, by omega, hhi, by go_num, rfl, Lib.hid (HLr.out.trans HLc.out), Lib.hid ⟨fun i h h' => HH.out i h (by omega), HP.out.2⟩⟩
          case measure => simp [intOf]; omega
        | false =>
          have HH := Lib.hid (HMG.out (by have := of_decide_eq_false HZ.out; omega))
          go_wp2_with fail
          go_roundw
          case rel => exact ⟨lo, m, hm1, by omega, rfl, rfl, Lib.hid (HLr.out.trans HLc.out), Lib.hid ⟨HP.out.1, fun i h h' => HH.out i h h'⟩⟩
          case measure => simp [intOf]; omega
    · obtain rfl : hi = lo := by omega
      by_cases hin : hi < l.length
      · obtain ⟨b, off, rfl, _, hc⟩ := HR.out.atC gC_len hin
        have g0 := HMW.out.1.cell (hc 0 (.int .u8 l[hi].2.k.kind) rfl)
        have g1 := HMW.out.1.cell (hc 1 (.int .i64 l[hi].2.k.a) rfl)
        have g2 := HMW.out.1.cell (hc 2 (.int .i64 l[hi].2.k.b) rfl)
        have g3 := HMW.out.1.cell (hc 3 (.int .i64 l[hi].2.k.n) rfl)
        have g4 := HMW.out.1.cell (hc 4 (.int .i64 l[hi].2.t) rfl)
        have g5 := HMW.out.1.cell (hc 5 (.int .i64 l[hi].2.d) rfl)
        have g6 := HMW.out.1.cell (hc 6 l[hi].1 rfl)
        obtain ⟨xa, xc, hxv⟩ := HSH.out _ (List.getElem_mem hin)
        rw [hxv] at g6
        clear hxv
        rw [Nat.add_zero] at g0
        clear hc
        have HE := Lib.hid (show (l[hi]?.map (·.2.k) == some k) = (cmpK4 l[hi].2.k k == 0) by
          rw [List.getElem?_eq_getElem hin]; simp only [Option.map_some]
          rw [Bool.eq_iff_iff]; simp [cmpK4_zeroG])
        have HC := Lib.hid (fun W => findCmp_gen l[hi] k xa xc W)
        obtain ⟨r, HRR⟩ : ∃ r, Hid (cmpK4 l[hi].2.k k = r) := ⟨_, Lib.hid rfl⟩
        rw [HRR.out] at HC HE
        generalize l[hi] = x at *
        have hbg := cell_lt g0
        have HK := Lib.hid (show ∀ W, Lay wr W → (W.cell? ⟨b, off + hi * 7, none⟩ = some (.int .u8 x.2.k.kind) ∧ W.cell? ⟨b, off + hi * 7 + 1, none⟩ = some (.int .i64 x.2.k.a) ∧ W.cell? ⟨b, off + hi * 7 + 2, none⟩ = some (.int .i64 x.2.k.b) ∧ W.cell? ⟨b, off + hi * 7 + 3, none⟩ = some (.int .i64 x.2.k.n) ∧ W.cell? ⟨b, off + hi * 7 + 4, none⟩ = some (.int .i64 x.2.t) ∧ W.cell? ⟨b, off + hi * 7 + 5, none⟩ = some (.int .i64 x.2.d) ∧ W.cell? ⟨b, off + hi * 7 + 6, none⟩ = some (.slice xa x.2.l.length xc) ∧ W.cell? ⟨KB, 0, none⟩ = some (.int .u8 k.kind) ∧ W.cell? ⟨KB, 1, none⟩ = some (.int .i64 k.a) ∧ W.cell? ⟨KB, 2, none⟩ = some (.int .i64 k.b) ∧ W.cell? ⟨KB, 3, none⟩ = some (.int .i64 k.n)) from fun W h => ⟨h.1.cell g0, h.1.cell g1, h.1.cell g2, h.1.cell g3, h.1.cell g4, h.1.cell g5, h.1.cell g6, cell_of_blk (HK4.out W h) rfl, cell_of_blk (HK4.out W h) rfl, cell_of_blk (HK4.out W h) rfl, cell_of_blk (HK4.out W h) rfl⟩)
        have HL := Lib.hid (Lay.drew wr)
        go_upto_region 8 with (fail)
        go_region_held3 (fun W => W.cell? ⟨b, off + hi * 7, none⟩ = some (.int .u8 x.2.k.kind) ∧ W.cell? ⟨b, off + hi * 7 + 1, none⟩ = some (.int .i64 x.2.k.a) ∧ W.cell? ⟨b, off + hi * 7 + 2, none⟩ = some (.int .i64 x.2.k.b) ∧ W.cell? ⟨b, off + hi * 7 + 3, none⟩ = some (.int .i64 x.2.k.n) ∧ W.cell? ⟨b, off + hi * 7 + 4, none⟩ = some (.int .i64 x.2.t) ∧ W.cell? ⟨b, off + hi * 7 + 5, none⟩ = some (.int .i64 x.2.d) ∧ W.cell? ⟨b, off + hi * 7 + 6, none⟩ = some (.slice xa x.2.l.length xc) ∧ W.cell? ⟨KB, 0, none⟩ = some (.int .u8 k.kind) ∧ W.cell? ⟨KB, 1, none⟩ = some (.int .i64 k.a) ∧ W.cell? ⟨KB, 2, none⟩ = some (.int .i64 k.b) ∧ W.cell? ⟨KB, 3, none⟩ = some (.int .i64 k.n)) (first | with_reducible exact HK.out _ HL.out) (first | (go_at_call 149; refine (HC.out _).mono ?_; rintro e w3 ⟨rfl, hl3⟩; have HL := Lib.hid (HL.out.trans hl3); clear hl3))
        all_goals
          go_wp2_with fail
          go_ret2
          exact ⟨⟨hi, ⟨hhi, HP.out⟩, by rw [HE.out]; rfl⟩, HMW.out.trans HL.out⟩
      · have HE := Lib.hid (show (l[hi]?.map (·.2.k) == some k) = false by rw [List.getElem?_eq_none (by omega)]; rfl)
        go_upto_region 8 with (fail)
        go_quiet (fail)
        go_wp2_with fail
        go_ret2
        exact ⟨⟨hi, ⟨hhi, HP.out⟩, by rw [HE.out]; rfl⟩, HMW.out.trans (Lay.drewN wr nq)⟩
/-- Whether a set has a key. -/
def hasG (l : List GV) (k : K4) : Bool := l.any fun x => decide (x.2.k = k)
theorem hasG_some {l : List GV} {k : K4} {p : Nat} (hp : p < l.length) (hk : l[p].2.k = k) : hasG l k = true := by
  unfold hasG
  rw [List.any_eq_true]
  exact ⟨l[p], List.getElem_mem hp, by simp [hk]⟩
theorem hasG_none {l : List GV} {k : K4} {p : Nat} (h : PlaceG l k p) (ha : AscG l) (hk : (l[p]?.map (·.2.k) == some k) = false) : hasG l k = false := by
  unfold hasG
  rw [List.any_eq_false]
  intro x hx
  rw [decide_eq_true_iff]
  intro e
  obtain ⟨i, hi, rfl⟩ := List.getElem_of_mem hx
  have hz := (cmpK4_zeroG _ _).2 e
  obtain ⟨h1, h2, h3⟩ := h
  rcases Nat.lt_trichotomy i p with h4 | h4 | h4
  · have := h2 i hi h4; omega
  · subst h4
    rw [List.getElem?_eq_getElem hi] at hk
    simp [e] at hk
  · have hp : p < l.length := by omega
    have hlt := List.pairwise_iff_getElem.1 ha p i hp hi h4
    have h5 := h3 p hp (Nat.le_refl _)
    rw [e] at hlt
    have := (cmpK4_neg _ _).2 hlt
    omega
set_option maxRecDepth 10000 in
theorem find98_gen (l : List GV) (k : K4) (v : Value) (w : World) (hl : l.length < 4294967296) (hasc : AscG l) (hsh : ∀ p ∈ l, ∃ a c, p.1 = .slice a p.2.l.length c) (h : Row anyB w 7 l.length v (flatC gC l)) :
    Calls Try.prog 98 #[.agg #[v], .agg #[.int .u8 k.kind, .int .i64 k.a, .int .i64 k.b, .int .i64 k.n]] w fun e w' => (∃ p, PlaceG l k p ∧ e = .returned (.tuple #[.int .i64 p, .bool (l[p]?.map (·.2.k) == some k)])) ∧ Lay w w' := by
  obtain ⟨a, cap, rfl, _⟩ := h.shape
  have HS := Lib.hid (fun W (hW : Lay w W) => search_gen l k _ W hl hasc hsh (h.below hW.1.below))
  clear h hasc hl hsh
  go_enter Try.func98, Try.ntmps98
  go_wp2_with fail
  refine (HS.out _ ((Lay.alloc _ _).trans (Lay.alloc _ _))).mono ?_
  rintro e w3 ⟨⟨p, hp, rfl⟩, hl3⟩
  have HP := Lib.hid hp
  have HL := Lib.hid (((Lay.alloc w _).trans (Lay.alloc _ _)).trans hl3)
  clear hp hl3
  obtain ⟨z, HZ⟩ : ∃ z, Hid ((l[p]?.map (·.2.k) == some k) = z) := ⟨_, Lib.hid rfl⟩
  rw [HZ.out]
  go_wp2_with fail
  go_ret2
  exact ⟨⟨p, HP.out, by rw [HZ.out]; rfl⟩, HL.out⟩
theorem SetAt.shape {S : Nat → Prop} {w : World} {v : Value} {l : List GV} (h : SetAt S w v l) : ∀ p ∈ l, ∃ a c, p.1 = .slice a p.2.l.length c := fun p hp => by
  obtain ⟨a, c, e, _⟩ := (h.arg p hp).row.shape
  exact ⟨a, c, e⟩
set_option maxRecDepth 100000 in
set_option maxHeartbeats 2000000 in
theorem get83_gen (l : List GV) (k : K4) (v : Value) (w : World) (hs : SetAt anyB w v l) :
    Calls Try.prog 83 #[.agg #[v], .agg #[.int .u8 k.kind, .int .i64 k.a, .int .i64 k.b, .int .i64 k.n]] w fun e w' => (∃ (a : Option Addr) (n c : Nat) (y : Cg), e = .returned (.tuple #[gA (.slice a n c, y), .bool (hasG l k)])) ∧ Below w.heap.size w w' := by
  obtain ⟨a, cap, rfl, _⟩ := hs.row.shape
  have HSH := Lib.hid hs.shape
  have HS := Lib.hid (fun W (hW : More w W) => find98_gen l k _ W (by have := hs.len; omega) hs.asc hs.shape (hs.row.below hW.below))
  have HST := Lib.hid hs; clear hs
  go_enter Try.func83, Try.ntmps83
  go_wp2_with fail
  have HSB := Lib.hid (show (((w.alloc (.cells #[.slice a l.length cap] 73)).alloc (.cells #[.int .u8 k.kind, .int .i64 k.a, .int .i64 k.b, .int .i64 k.n] 48)).alloc (.cells #[.int .u8 0, .int .i64 0, .int .i64 0, .int .i64 0, .int .i64 0, .int .i64 0, .slice none 0 0] 113)).heap[w.heap.size]? = some (.cells #[.slice a l.length cap] 73) by
    rw [Below.heap_alloc _ _ _ (by simp; omega), Below.heap_alloc _ _ _ (by simp)]; exact alloc_last _ _)
  have HRB := Lib.hid (show (((w.alloc (.cells #[.slice a l.length cap] 73)).alloc (.cells #[.int .u8 k.kind, .int .i64 k.a, .int .i64 k.b, .int .i64 k.n] 48)).alloc (.cells #[.int .u8 0, .int .i64 0, .int .i64 0, .int .i64 0, .int .i64 0, .int .i64 0, .slice none 0 0] 113)).heap[w.heap.size + 1 + 1]? = some (.cells #[.int .u8 0, .int .i64 0, .int .i64 0, .int .i64 0, .int .i64 0, .int .i64 0, .slice none 0 0] 113) from alloc_at _ _ (by simp))
  have HL3 := Lib.hid (more_trans (more_trans (more_alloc w (.cells #[.slice a l.length cap] 73)) (more_alloc _ (.cells #[.int .u8 k.kind, .int .i64 k.a, .int .i64 k.b, .int .i64 k.n] 48))) (more_alloc _ (.cells #[.int .u8 0, .int .i64 0, .int .i64 0, .int .i64 0, .int .i64 0, .int .i64 0, .slice none 0 0] 113)))
  generalize ((w.alloc (.cells #[.slice a l.length cap] 73)).alloc (.cells #[.int .u8 k.kind, .int .i64 k.a, .int .i64 k.b, .int .i64 k.n] 48)).alloc (.cells #[.int .u8 0, .int .i64 0, .int .i64 0, .int .i64 0, .int .i64 0, .int .i64 0, .slice none 0 0] 113) = w3 at *
  refine (HS.out _ HL3.out).mono ?_
  rintro e w4 ⟨⟨p, hp, rfl⟩, hl4⟩
  have HP := Lib.hid hp
  have HL4 := Lib.hid (more_trans HL3.out hl4.1)
  have HSB4 := Lib.hid ((hl4.1.block (blk_lt HSB.out)).trans HSB.out)
  have HRB4 := Lib.hid ((hl4.1.block (blk_lt HRB.out)).trans HRB.out)
  clear hp hl4 HSB HRB HS
  obtain ⟨RB, HRE⟩ : ∃ RB, Hid (RB = w.heap.size + 1 + 1) := ⟨_, Lib.hid rfl⟩
  rw [← HRE.out] at HRB4 ⊢
  obtain ⟨z, hz⟩ : ∃ z, (l[p]?.map (·.2.k) == some k) = z := ⟨_, rfl⟩
  rw [hz]
  have r0 : w4.cell? ⟨RB, 0, none⟩ = some (.int .u8 0) := cell_of_blk HRB4.out rfl
  have r1 : w4.cell? ⟨RB, 1, none⟩ = some (.int .i64 0) := cell_of_blk HRB4.out rfl
  have r2 : w4.cell? ⟨RB, 2, none⟩ = some (.int .i64 0) := cell_of_blk HRB4.out rfl
  have r3 : w4.cell? ⟨RB, 3, none⟩ = some (.int .i64 0) := cell_of_blk HRB4.out rfl
  have r4 : w4.cell? ⟨RB, 4, none⟩ = some (.int .i64 0) := cell_of_blk HRB4.out rfl
  have r5 : w4.cell? ⟨RB, 5, none⟩ = some (.int .i64 0) := cell_of_blk HRB4.out rfl
  have r6 : w4.cell? ⟨RB, 6, none⟩ = some (.slice none 0 0) := cell_of_blk HRB4.out rfl
  have f0 := thaw HRB4.out 0
  have f1 := thaw HRB4.out 1
  have f2 := thaw HRB4.out 2
  have f3 := thaw HRB4.out 3
  have f4 := thaw HRB4.out 4
  have f5 := thaw HRB4.out 5
  have f6 := thaw HRB4.out 6
  have hbr := cell_lt r0
  have s0 : w4.cell? ⟨w.heap.size, 0, none⟩ = some (.slice a l.length cap) := cell_of_blk HSB4.out rfl
  have hsb := cell_lt s0
  cases z with
  | false =>
    have HN := Lib.hid (hasG_none HP.out HST.out.asc hz)
    clear hz
    go_wp2_with fail
    generalize hw5 : (((((w4.setCell ⟨RB, 0, none⟩ (.int .u8 0)).setCell ⟨RB, 1, none⟩ (.int .i64 0)).setCell ⟨RB, 2, none⟩ (.int .i64 0)).setCell ⟨RB, 3, none⟩ (.int .i64 0)).setCell ⟨RB, 4, none⟩ (.int .i64 0)).setCell ⟨RB, 5, none⟩ (.int .i64 0) = w5b
    generalize hw6 : w5b.setCell ⟨RB, 6, none⟩ (.slice none 0 0) = w5
    obtain ⟨HQ4, HZ4, HB4⟩ := set7 HRB4.out (W := w5) (by rw [← hw6, ← hw5])
    clear hw5 hw6 r0 r1 r2 r3 r4 r5 r6 f0 f1 f2 f3 f4 f5 f6
    have c0 : w5.cell? ⟨RB, 0, none⟩ = some (.int .u8 0) := cell_of_blk HQ4 rfl
    have c1 : w5.cell? ⟨RB, 1, none⟩ = some (.int .i64 0) := cell_of_blk HQ4 rfl
    have c2 : w5.cell? ⟨RB, 2, none⟩ = some (.int .i64 0) := cell_of_blk HQ4 rfl
    have c3 : w5.cell? ⟨RB, 3, none⟩ = some (.int .i64 0) := cell_of_blk HQ4 rfl
    have c4 : w5.cell? ⟨RB, 4, none⟩ = some (.int .i64 0) := cell_of_blk HQ4 rfl
    have c5 : w5.cell? ⟨RB, 5, none⟩ = some (.int .i64 0) := cell_of_blk HQ4 rfl
    have c6 : w5.cell? ⟨RB, 6, none⟩ = some (.slice none 0 0) := cell_of_blk HQ4 rfl
    exact bodyPost_ret (v := .tuple #[.agg #[.int .u8 0, .int .i64 0, .int .i64 0, .int .i64 0, .int .i64 0, .int .i64 0, .slice none 0 0], .bool false]) (by simp [results, Try.results83, go_sem, c0, c1, c2, c3, c4, c5, c6]) rfl ⟨⟨none, 0, 0, ⟨⟨0, 0, 0, 0⟩, 0, 0, []⟩, by rw [HN.out]; rfl⟩, HB4 _ _ HL4.out.below (by rw [HRE.out]; omega)⟩
  | true =>
    have hin : p < l.length := by
      by_cases h : p < l.length
      · exact h
      · rw [List.getElem?_eq_none (by omega)] at hz; simp at hz
    have hk : l[p].2.k = k := by rw [List.getElem?_eq_getElem hin] at hz; simpa using hz
    have HG := Lib.hid (hasG_some hin hk)
    clear hz hk
    have hrw := HST.out.row
    obtain ⟨b, off, rfl, _, hc⟩ := hrw.atC gC_len hin
    have g0 := HL4.out.cell (hc 0 (.int .u8 l[p].2.k.kind) rfl)
    have g1 := HL4.out.cell (hc 1 (.int .i64 l[p].2.k.a) rfl)
    have g2 := HL4.out.cell (hc 2 (.int .i64 l[p].2.k.b) rfl)
    have g3 := HL4.out.cell (hc 3 (.int .i64 l[p].2.k.n) rfl)
    have g4 := HL4.out.cell (hc 4 (.int .i64 l[p].2.t) rfl)
    have g5 := HL4.out.cell (hc 5 (.int .i64 l[p].2.d) rfl)
    have g6 := HL4.out.cell (hc 6 l[p].1 rfl)
    rw [Nat.add_zero] at g0
    obtain ⟨xa, xc, hxv⟩ := HSH.out _ (List.getElem_mem hin)
    rw [hxv] at g6
    have HGX := Lib.hid (show gA l[p] = .agg #[.int .u8 l[p].2.k.kind, .int .i64 l[p].2.k.a, .int .i64 l[p].2.k.b, .int .i64 l[p].2.k.n, .int .i64 l[p].2.t, .int .i64 l[p].2.d, .slice xa l[p].2.l.length xc] by unfold gA; rw [hxv])
    have HGA := Lib.hid (HST.out.arg _ (List.getElem_mem hin))
    have HKO := Lib.hid (HST.out.ok _ (List.getElem_mem hin)).args
    clear hc hrw hxv
    generalize l[p] = x at *
    have HC := Lib.hid (show ∀ W, More w W → Calls Try.prog 100 #[.agg #[.int .u8 x.2.k.kind, .int .i64 x.2.k.a, .int .i64 x.2.k.b, .int .i64 x.2.k.n, .int .i64 x.2.t, .int .i64 x.2.d, .slice xa x.2.l.length xc]] W fun e w' => (∃ ya yc, e = .returned (.agg #[.int .u8 x.2.k.kind, .int .i64 x.2.k.a, .int .i64 x.2.k.b, .int .i64 x.2.k.n, .int .i64 x.2.t, .int .i64 x.2.d, .slice ya x.2.l.length yc])) ∧ Below W.heap.size W w' from fun W hW => by
      have h1 := clone100_gen x W (HGA.out.more hW) (by have := HKO.out; unfold maxLen; omega) (by have := HKO.out; omega)
      rw [HGX.out] at h1
      refine h1.mono ?_
      rintro e w' ⟨⟨ya, yc, he, _⟩, hb⟩
      exact ⟨⟨ya, yc, he⟩, hb⟩)
    have hbg := cell_lt g0
    have hpl : (p : Int) < l.length := by omega
    have hl96 := HST.out.len
    go_wp2_with fail
    refine (HC.out _ HL4.out).mono ?_
    rintro e w5 ⟨⟨ya, yc, rfl⟩, hb5⟩
    have HL5 := Lib.hid (more_trans HL4.out (more_of hb5))
    have HRB5 := Lib.hid (((more_of hb5).block (blk_lt HRB4.out)).trans HRB4.out)
    clear hb5 r0 r1 r2 r3 r4 r5 r6 f0 f1 f2 f3 f4 f5 f6 hbr g0 g1 g2 g3 g4 g5 g6 hbg s0 hsb
    have r0 : w5.cell? ⟨RB, 0, none⟩ = some (.int .u8 0) := cell_of_blk HRB5.out rfl
    have r1 : w5.cell? ⟨RB, 1, none⟩ = some (.int .i64 0) := cell_of_blk HRB5.out rfl
    have r2 : w5.cell? ⟨RB, 2, none⟩ = some (.int .i64 0) := cell_of_blk HRB5.out rfl
    have r3 : w5.cell? ⟨RB, 3, none⟩ = some (.int .i64 0) := cell_of_blk HRB5.out rfl
    have r4 : w5.cell? ⟨RB, 4, none⟩ = some (.int .i64 0) := cell_of_blk HRB5.out rfl
    have r5 : w5.cell? ⟨RB, 5, none⟩ = some (.int .i64 0) := cell_of_blk HRB5.out rfl
    have r6 : w5.cell? ⟨RB, 6, none⟩ = some (.slice none 0 0) := cell_of_blk HRB5.out rfl
    have f0 := thaw HRB5.out 0
    have f1 := thaw HRB5.out 1
    have f2 := thaw HRB5.out 2
    have f3 := thaw HRB5.out 3
    have f4 := thaw HRB5.out 4
    have f5 := thaw HRB5.out 5
    have f6 := thaw HRB5.out 6
    have hbr := cell_lt r0
    go_wp2_with fail
    generalize hw5 : (((((w5.setCell ⟨RB, 0, none⟩ (.int .u8 x.2.k.kind)).setCell ⟨RB, 1, none⟩ (.int .i64 x.2.k.a)).setCell ⟨RB, 2, none⟩ (.int .i64 x.2.k.b)).setCell ⟨RB, 3, none⟩ (.int .i64 x.2.k.n)).setCell ⟨RB, 4, none⟩ (.int .i64 x.2.t)).setCell ⟨RB, 5, none⟩ (.int .i64 x.2.d) = w6b
    generalize hw6 : w6b.setCell ⟨RB, 6, none⟩ (.slice ya x.2.l.length yc) = w6
    obtain ⟨HQ4, HZ4, HB4⟩ := set7 HRB5.out (W := w6) (by rw [← hw6, ← hw5])
    clear hw5 hw6 r0 r1 r2 r3 r4 r5 r6 f0 f1 f2 f3 f4 f5 f6
    have c0 : w6.cell? ⟨RB, 0, none⟩ = some (.int .u8 x.2.k.kind) := cell_of_blk HQ4 rfl
    have c1 : w6.cell? ⟨RB, 1, none⟩ = some (.int .i64 x.2.k.a) := cell_of_blk HQ4 rfl
    have c2 : w6.cell? ⟨RB, 2, none⟩ = some (.int .i64 x.2.k.b) := cell_of_blk HQ4 rfl
    have c3 : w6.cell? ⟨RB, 3, none⟩ = some (.int .i64 x.2.k.n) := cell_of_blk HQ4 rfl
    have c4 : w6.cell? ⟨RB, 4, none⟩ = some (.int .i64 x.2.t) := cell_of_blk HQ4 rfl
    have c5 : w6.cell? ⟨RB, 5, none⟩ = some (.int .i64 x.2.d) := cell_of_blk HQ4 rfl
    have c6 : w6.cell? ⟨RB, 6, none⟩ = some (.slice ya x.2.l.length yc) := cell_of_blk HQ4 rfl
    exact bodyPost_ret (v := .tuple #[.agg #[.int .u8 x.2.k.kind, .int .i64 x.2.k.a, .int .i64 x.2.k.b, .int .i64 x.2.k.n, .int .i64 x.2.t, .int .i64 x.2.d, .slice ya x.2.l.length yc], .bool true]) (by simp [results, Try.results83, go_sem, c0, c1, c2, c3, c4, c5, c6]) rfl ⟨⟨ya, x.2.l.length, yc, x.2, by rw [HG.out]; rfl⟩, HB4 _ _ HL5.out.below (by rw [HRE.out]; omega)⟩
end Go.Proofs.Ytemeppfikpafbaa
