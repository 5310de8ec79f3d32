/- Texts GetG, OrdC, HolG, HelG, laid together. -/
import Derived.Deep.RegionHeld3
import Derived.Laws.EntriesVeiled
import Derived.Test.YtemeppfikpafbaaGreatDoorBc
import Derived.Test.YtemeppfikpafbaaGreatDoorBd
/- (choice.Set).find$1 (149), slices.BinarySearchFunc (148), find (98), Get (83), on choices of all kinds. -/
namespace Go.Proofs.YtemeppfikpafbaaGreatDoor
open Go.RowKit
set_option maxRecDepth 10000 in
theorem findCmp_gen (x : GV) (k : K4) (xa : Option Addr) (xc : Nat) (w : World) : Calls Tryz.prog 103 #[.agg #[.int .u8 x.2.k.kind, .int .i64 x.2.k.a, .int .i64 x.2.k.b, .int .i64 x.2.k.n, .int .i64 x.2.t, .int .i64 x.2.d, .slice xa x.2.l.length xc], .agg #[.int .u8 k.kind, .int .i64 k.a, .int .i64 k.b, .int .i64 k.n]] w fun e w' => e = .returned (.int .i64 (cmpK4 x.2.k k)) ∧ Lay w w' := by
  have HC := Lib.hid (fun w => compareK_any x.2.k k w)
  unfold kA at HC
  generalize cmpK4 x.2.k k = c at *
  go_enter Tryz.func103, Tryz.ntmps103
  go_wp2_with fail
  refine (HC.out _).mono ?_
  rintro e w2 ⟨rfl, hl2⟩
  have HM := Lib.hid (((Lay.alloc _ _).trans (Lay.alloc _ _)).trans hl2)
  clear hl2
  go_wp2_with fail
  go_ret
  exact ⟨rfl, HM.out⟩
/-- p is the place of the key k. -/
def PlaceG (l : List GV) (k : K4) (p : Nat) : Prop := p ≤ l.length ∧ (∀ i (h : i < l.length), i < p → cmpK4 l[i].2.k k < 0) ∧ ∀ i (h : i < l.length), p ≤ i → 0 ≤ cmpK4 l[i].2.k k
theorem cmpK4_zeroG (x y : K4) : cmpK4 x y = 0 ↔ x = y := by
  constructor
  · intro h
    refine ltK_tri (fun e => ?_) (fun e => ?_)
    · have := (cmpK4_neg x y).2 e; omega
    · unfold ltK at e
      unfold cmpK4 at h
      rw [orI_zero, orI_zero, orI_zero, orI_zero, cmpI_zero, cmpI_zero, cmpI_zero, cmpI_zero] at h
      omega
  · rintro rfl
    unfold cmpK4
    rw [orI_zero, orI_zero, orI_zero, orI_zero, cmpI_zero, cmpI_zero, cmpI_zero, cmpI_zero]
    exact ⟨rfl, rfl, rfl, rfl, rfl⟩
theorem AscG.lt_of {l : List GV} (h : AscG l) {k : K4} {i m : Nat} (hi : i < l.length) (hm : m < l.length) (him : i ≤ m) (hk : cmpK4 l[m].2.k k < 0) : cmpK4 l[i].2.k k < 0 := by
  rcases Nat.lt_or_eq_of_le him with h1 | h1
  · have := List.pairwise_iff_getElem.1 h i m hi hm h1
    rw [cmpK4_neg] at hk ⊢
    exact ltK_trans this hk
  · subst h1; exact hk
set_option maxRecDepth 100000 in
set_option maxHeartbeats 4000000 in
theorem search_gen (l : List GV) (k : K4) (v : Value) (w : World) (hl : l.length < 4294967296) (hasc : AscG l) (hsh : ∀ p ∈ l, ∃ a c, p.1 = .slice a p.2.l.length c) (h : Row anyB w 7 l.length v (flatC gC l)) :
    Calls Tryz.prog 102 #[v, .agg #[.int .u8 k.kind, .int .i64 k.a, .int .i64 k.b, .int .i64 k.n], .func (.func 103) #[] #[]] w fun e w' => (∃ p, PlaceG l k p ∧ e = .returned (.tuple #[.int .i64 p, .bool (l[p]?.map (·.2.k) == some k)])) ∧ Lay w w' := by
  obtain ⟨a, cap, rfl, hcap⟩ := h.shape
  have HR := Lib.hid h; clear h
  have HA := Lib.hid hasc; clear hasc
  have HSH := Lib.hid hsh; clear hsh
  go_enter Tryz.func102, Tryz.ntmps102
  go_wp2_with fail
  have HKB := Lib.hid (alloc_last w (.cells #[.int .u8 k.kind, .int .i64 k.a, .int .i64 k.b, .int .i64 k.n] 53))
  have HL1 := Lib.hid (Lay.alloc w (.cells #[.int .u8 k.kind, .int .i64 k.a, .int .i64 k.b, .int .i64 k.n] 53))
  obtain ⟨KB, HKK⟩ : ∃ KB, Hid (KB = w.heap.size) := ⟨_, Lib.hid rfl⟩
  rw [← HKK.out] at HKB ⊢
  generalize w.alloc (.cells #[.int .u8 k.kind, .int .i64 k.a, .int .i64 k.b, .int .i64 k.n] 53) = w1 at *
  go_loopw [9, 10] (fun i j wr => ∃ lo hi : Nat, lo ≤ hi ∧ hi ≤ l.length ∧ i = .int .i64 lo ∧ j = .int .i64 hi ∧ Hid (Lay w1 wr) ∧ Hid ((∀ i (h : i < l.length), i < lo → cmpK4 l[i].2.k k < 0) ∧ ∀ i (h : i < l.length), hi ≤ i → 0 ≤ cmpK4 l[i].2.k k)) (fun i j _ => (intOf j).toNat - (intOf i).toNat)
  case atStart => exact ⟨0, l.length, Nat.zero_le _, Nat.le_refl _, rfl, rfl, Lib.hid (Lay.refl _), Lib.hid ⟨fun _ _ h => absurd h (Nat.not_lt_zero _), fun i h h' => by omega⟩⟩
  case round =>
    obtain ⟨lo, hi, hlo, hhi, rfl, rfl, HLr, HP⟩ := hrel
    have HK4 := Lib.hid (show ∀ W, Lay wr W → W.heap[KB]? = some (.cells #[.int .u8 k.kind, .int .i64 k.a, .int .i64 k.b, .int .i64 k.n] 53) from fun W h => ((HLr.out.trans h).1.block (blk_lt HKB.out)).trans HKB.out)
    have HMW := Lib.hid (HL1.out.trans HLr.out)
    by_cases hlt : lo < hi
    · obtain ⟨m, hm⟩ : ∃ m : Nat, ((lo : Int) + hi) / 2 = m := ⟨(lo + hi) / 2, by omega⟩
      have hml : m < l.length := by omega
      have hm1 : lo ≤ m := by omega
      have hm2 : m < hi := by omega
      obtain ⟨b, off, rfl, _, hc⟩ := HR.out.atC gC_len hml
      have g0 := HMW.out.1.cell (hc 0 (.int .u8 l[m].2.k.kind) rfl)
      have g1 := HMW.out.1.cell (hc 1 (.int .i64 l[m].2.k.a) rfl)
      have g2 := HMW.out.1.cell (hc 2 (.int .i64 l[m].2.k.b) rfl)
      have g3 := HMW.out.1.cell (hc 3 (.int .i64 l[m].2.k.n) rfl)
      have g4 := HMW.out.1.cell (hc 4 (.int .i64 l[m].2.t) rfl)
      have g5 := HMW.out.1.cell (hc 5 (.int .i64 l[m].2.d) rfl)
      have g6 := HMW.out.1.cell (hc 6 l[m].1 rfl)
      obtain ⟨xa, xc, hxv⟩ := HSH.out _ (List.getElem_mem hml)
      rw [hxv] at g6
      clear hxv
      rw [Nat.add_zero] at g0
      clear hc
      have HMT := Lib.hid (fun (hk : cmpK4 l[m].2.k k < 0) i (hi : i < l.length) (him : i ≤ m) => HA.out.lt_of hi hml him hk)
      have HMG := Lib.hid (show 0 ≤ cmpK4 l[m].2.k k → ∀ i (hi : i < l.length), m ≤ i → 0 ≤ cmpK4 l[i].2.k k from fun hk i hi him => by
        rcases Int.lt_or_le (cmpK4 l[i].2.k k) 0 with e | e
        · have := HA.out.lt_of hml hi him e; omega
        · exact e)
      have HC := Lib.hid (fun W => findCmp_gen l[m] k xa xc W)
      obtain ⟨r, HRR⟩ : ∃ r, Hid (cmpK4 l[m].2.k k = r) := ⟨_, Lib.hid rfl⟩
      rw [HRR.out] at HC HMT HMG
      generalize l[m] = x at *
      have hbg := cell_lt g0
      have HK := Lib.hid (show ∀ W, Lay wr W → (W.cell? ⟨b, off + m * 7, none⟩ = some (.int .u8 x.2.k.kind) ∧ W.cell? ⟨b, off + m * 7 + 1, none⟩ = some (.int .i64 x.2.k.a) ∧ W.cell? ⟨b, off + m * 7 + 2, none⟩ = some (.int .i64 x.2.k.b) ∧ W.cell? ⟨b, off + m * 7 + 3, none⟩ = some (.int .i64 x.2.k.n) ∧ W.cell? ⟨b, off + m * 7 + 4, none⟩ = some (.int .i64 x.2.t) ∧ W.cell? ⟨b, off + m * 7 + 5, none⟩ = some (.int .i64 x.2.d) ∧ W.cell? ⟨b, off + m * 7 + 6, none⟩ = some (.slice xa x.2.l.length xc) ∧ W.cell? ⟨KB, 0, none⟩ = some (.int .u8 k.kind) ∧ W.cell? ⟨KB, 1, none⟩ = some (.int .i64 k.a) ∧ W.cell? ⟨KB, 2, none⟩ = some (.int .i64 k.b) ∧ W.cell? ⟨KB, 3, none⟩ = some (.int .i64 k.n)) from fun W h => ⟨h.1.cell g0, h.1.cell g1, h.1.cell g2, h.1.cell g3, h.1.cell g4, h.1.cell g5, h.1.cell g6, cell_of_blk (HK4.out W h) rfl, cell_of_blk (HK4.out W h) rfl, cell_of_blk (HK4.out W h) rfl, cell_of_blk (HK4.out W h) rfl⟩)
      have HL := Lib.hid (Lay.drew wr)
      go_upto_region 5 with (fail)
      clear hm
      obtain ⟨z, HZ⟩ : ∃ z, Hid (decide (r < 0) = z) := ⟨_, Lib.hid rfl⟩
      go_cut [31] (fun s wx => s = .bool z ∧ Hid (Lay wr wx))
      case first =>
        go_region_held3 (fun W => W.cell? ⟨b, off + m * 7, none⟩ = some (.int .u8 x.2.k.kind) ∧ W.cell? ⟨b, off + m * 7 + 1, none⟩ = some (.int .i64 x.2.k.a) ∧ W.cell? ⟨b, off + m * 7 + 2, none⟩ = some (.int .i64 x.2.k.b) ∧ W.cell? ⟨b, off + m * 7 + 3, none⟩ = some (.int .i64 x.2.k.n) ∧ W.cell? ⟨b, off + m * 7 + 4, none⟩ = some (.int .i64 x.2.t) ∧ W.cell? ⟨b, off + m * 7 + 5, none⟩ = some (.int .i64 x.2.d) ∧ W.cell? ⟨b, off + m * 7 + 6, none⟩ = some (.slice xa x.2.l.length xc) ∧ W.cell? ⟨KB, 0, none⟩ = some (.int .u8 k.kind) ∧ W.cell? ⟨KB, 1, none⟩ = some (.int .i64 k.a) ∧ W.cell? ⟨KB, 2, none⟩ = some (.int .i64 k.b) ∧ W.cell? ⟨KB, 3, none⟩ = some (.int .i64 k.n)) (first | with_reducible exact HK.out _ HL.out) (first | (go_at_call 103; refine (HC.out _).mono ?_; rintro e w3 ⟨rfl, hl3⟩; have HL := Lib.hid (HL.out.trans hl3); clear hl3))
        all_goals
          go_wp2_with fail
          go_meet
          case rel => exact ⟨by rw [← HZ.out], HL⟩
      case rest =>
        obtain ⟨rfl, HLc⟩ := hcut
        clear HL HK HC g0 g1 g2 g3 g4 g5 g6 hbg
        cases z with
        | true =>
          have HH := Lib.hid (HMT.out (of_decide_eq_true HZ.out))
          go_wp2_with fail
          go_roundw
          case rel => exact ⟨m + 1, hi, by omega, hhi, by go_num, rfl, Lib.hid (HLr.out.trans HLc.out), Lib.hid ⟨fun i h h' => HH.out i h (by omega), HP.out.2⟩⟩
          case measure => simp [intOf]; omega
        | false =>
          have HH := Lib.hid (HMG.out (by have := of_decide_eq_false HZ.out; omega))
          go_wp2_with fail
          go_roundw
          case rel => exact ⟨lo, m, hm1, by omega, rfl, rfl, Lib.hid (HLr.out.trans HLc.out), Lib.hid ⟨HP.out.1, fun i h h' => HH.out i h h'⟩⟩
          case measure => simp [intOf]; omega
    · obtain rfl : hi = lo := by omega
      by_cases hin : hi < l.length
      · obtain ⟨b, off, rfl, _, hc⟩ := HR.out.atC gC_len hin
        have g0 := HMW.out.1.cell (hc 0 (.int .u8 l[hi].2.k.kind) rfl)
        have g1 := HMW.out.1.cell (hc 1 (.int .i64 l[hi].2.k.a) rfl)
        have g2 := HMW.out.1.cell (hc 2 (.int .i64 l[hi].2.k.b) rfl)
        have g3 := HMW.out.1.cell (hc 3 (.int .i64 l[hi].2.k.n) rfl)
        have g4 := HMW.out.1.cell (hc 4 (.int .i64 l[hi].2.t) rfl)
        have g5 := HMW.out.1.cell (hc 5 (.int .i64 l[hi].2.d) rfl)
        have g6 := HMW.out.1.cell (hc 6 l[hi].1 rfl)
        obtain ⟨xa, xc, hxv⟩ := HSH.out _ (List.getElem_mem hin)
        rw [hxv] at g6
        clear hxv
        rw [Nat.add_zero] at g0
        clear hc
        have HE := Lib.hid (show (l[hi]?.map (·.2.k) == some k) = (cmpK4 l[hi].2.k k == 0) by
          rw [List.getElem?_eq_getElem hin]; simp only [Option.map_some]
          rw [Bool.eq_iff_iff]; simp [cmpK4_zeroG])
        have HC := Lib.hid (fun W => findCmp_gen l[hi] k xa xc W)
        obtain ⟨r, HRR⟩ : ∃ r, Hid (cmpK4 l[hi].2.k k = r) := ⟨_, Lib.hid rfl⟩
        rw [HRR.out] at HC HE
        generalize l[hi] = x at *
        have hbg := cell_lt g0
        have HK := Lib.hid (show ∀ W, Lay wr W → (W.cell? ⟨b, off + hi * 7, none⟩ = some (.int .u8 x.2.k.kind) ∧ W.cell? ⟨b, off + hi * 7 + 1, none⟩ = some (.int .i64 x.2.k.a) ∧ W.cell? ⟨b, off + hi * 7 + 2, none⟩ = some (.int .i64 x.2.k.b) ∧ W.cell? ⟨b, off + hi * 7 + 3, none⟩ = some (.int .i64 x.2.k.n) ∧ W.cell? ⟨b, off + hi * 7 + 4, none⟩ = some (.int .i64 x.2.t) ∧ W.cell? ⟨b, off + hi * 7 + 5, none⟩ = some (.int .i64 x.2.d) ∧ W.cell? ⟨b, off + hi * 7 + 6, none⟩ = some (.slice xa x.2.l.length xc) ∧ W.cell? ⟨KB, 0, none⟩ = some (.int .u8 k.kind) ∧ W.cell? ⟨KB, 1, none⟩ = some (.int .i64 k.a) ∧ W.cell? ⟨KB, 2, none⟩ = some (.int .i64 k.b) ∧ W.cell? ⟨KB, 3, none⟩ = some (.int .i64 k.n)) from fun W h => ⟨h.1.cell g0, h.1.cell g1, h.1.cell g2, h.1.cell g3, h.1.cell g4, h.1.cell g5, h.1.cell g6, cell_of_blk (HK4.out W h) rfl, cell_of_blk (HK4.out W h) rfl, cell_of_blk (HK4.out W h) rfl, cell_of_blk (HK4.out W h) rfl⟩)
        have HL := Lib.hid (Lay.drew wr)
        go_upto_region 8 with (fail)
        go_region_held3 (fun W => W.cell? ⟨b, off + hi * 7, none⟩ = some (.int .u8 x.2.k.kind) ∧ W.cell? ⟨b, off + hi * 7 + 1, none⟩ = some (.int .i64 x.2.k.a) ∧ W.cell? ⟨b, off + hi * 7 + 2, none⟩ = some (.int .i64 x.2.k.b) ∧ W.cell? ⟨b, off + hi * 7 + 3, none⟩ = some (.int .i64 x.2.k.n) ∧ W.cell? ⟨b, off + hi * 7 + 4, none⟩ = some (.int .i64 x.2.t) ∧ W.cell? ⟨b, off + hi * 7 + 5, none⟩ = some (.int .i64 x.2.d) ∧ W.cell? ⟨b, off + hi * 7 + 6, none⟩ = some (.slice xa x.2.l.length xc) ∧ W.cell? ⟨KB, 0, none⟩ = some (.int .u8 k.kind) ∧ W.cell? ⟨KB, 1, none⟩ = some (.int .i64 k.a) ∧ W.cell? ⟨KB, 2, none⟩ = some (.int .i64 k.b) ∧ W.cell? ⟨KB, 3, none⟩ = some (.int .i64 k.n)) (first | with_reducible exact HK.out _ HL.out) (first | (go_at_call 103; refine (HC.out _).mono ?_; rintro e w3 ⟨rfl, hl3⟩; have HL := Lib.hid (HL.out.trans hl3); clear hl3))
        all_goals
          go_wp2_with fail
          go_ret2
          exact ⟨⟨hi, ⟨hhi, HP.out⟩, by rw [HE.out]; rfl⟩, HMW.out.trans HL.out⟩
      · have HE := Lib.hid (show (l[hi]?.map (·.2.k) == some k) = false by rw [List.getElem?_eq_none (by omega)]; rfl)
        go_upto_region 8 with (fail)
        go_quiet (fail)
        go_wp2_with fail
        go_ret2
        exact ⟨⟨hi, ⟨hhi, HP.out⟩, by rw [HE.out]; rfl⟩, HMW.out.trans (Lay.drewN wr nq)⟩
/-- Whether a set has a key. -/
def hasG (l : List GV) (k : K4) : Bool := l.any fun x => decide (x.2.k = k)
theorem hasG_some {l : List GV} {k : K4} {p : Nat} (hp : p < l.length) (hk : l[p].2.k = k) : hasG l k = true := by
  unfold hasG
  rw [List.any_eq_true]
  exact ⟨l[p], List.getElem_mem hp, by simp [hk]⟩
theorem hasG_none {l : List GV} {k : K4} {p : Nat} (h : PlaceG l k p) (ha : AscG l) (hk : (l[p]?.map (·.2.k) == some k) = false) : hasG l k = false := by
  unfold hasG
  rw [List.any_eq_false]
  intro x hx
  rw [decide_eq_true_iff]
  intro e
  obtain ⟨i, hi, rfl⟩ := List.getElem_of_mem hx
  have hz := (cmpK4_zeroG _ _).2 e
  obtain ⟨h1, h2, h3⟩ := h
  rcases Nat.lt_trichotomy i p with h4 | h4 | h4
  · have := h2 i hi h4; omega
  · subst h4
    rw [List.getElem?_eq_getElem hi] at hk
    simp [e] at hk
  · have hp : p < l.length := by omega
    have hlt := List.pairwise_iff_getElem.1 ha p i hp hi h4
    have h5 := h3 p hp (Nat.le_refl _)
    rw [e] at hlt
    have := (cmpK4_neg _ _).2 hlt
    omega
set_option maxRecDepth 10000 in
theorem find98_gen (l : List GV) (k : K4) (v : Value) (w : World) (hl : l.length < 4294967296) (hasc : AscG l) (hsh : ∀ p ∈ l, ∃ a c, p.1 = .slice a p.2.l.length c) (h : Row anyB w 7 l.length v (flatC gC l)) :
    Calls Tryz.prog 83 #[.agg #[v], .agg #[.int .u8 k.kind, .int .i64 k.a, .int .i64 k.b, .int .i64 k.n]] w fun e w' => (∃ p, PlaceG l k p ∧ e = .returned (.tuple #[.int .i64 p, .bool (l[p]?.map (·.2.k) == some k)])) ∧ Lay w w' := by
  obtain ⟨a, cap, rfl, _⟩ := h.shape
  have HS := Lib.hid (fun W (hW : Lay w W) => search_gen l k _ W hl hasc hsh (h.below hW.1.below))
  clear h hasc hl hsh
  go_enter Tryz.func83, Tryz.ntmps83
  go_wp2_with fail
  refine (HS.out _ ((Lay.alloc _ _).trans (Lay.alloc _ _))).mono ?_
  rintro e w3 ⟨⟨p, hp, rfl⟩, hl3⟩
  have HP := Lib.hid hp
  have HL := Lib.hid (((Lay.alloc w _).trans (Lay.alloc _ _)).trans hl3)
  clear hp hl3
  obtain ⟨z, HZ⟩ : ∃ z, Hid ((l[p]?.map (·.2.k) == some k) = z) := ⟨_, Lib.hid rfl⟩
  rw [HZ.out]
  go_wp2_with fail
  go_ret2
  exact ⟨⟨p, HP.out, by rw [HZ.out]; rfl⟩, HL.out⟩
theorem SetAt.shape {S : Nat → Prop} {w : World} {v : Value} {l : List GV} (h : SetAt S w v l) : ∀ p ∈ l, ∃ a c, p.1 = .slice a p.2.l.length c := fun p hp => by
  obtain ⟨a, c, e, _⟩ := (h.arg p hp).row.shape
  exact ⟨a, c, e⟩
set_option maxRecDepth 100000 in
set_option maxHeartbeats 2000000 in
theorem get83_gen (l : List GV) (k : K4) (v : Value) (w : World) (hs : SetAt anyB w v l) :
    Calls Tryz.prog 50 #[.agg #[v], .agg #[.int .u8 k.kind, .int .i64 k.a, .int .i64 k.b, .int .i64 k.n]] w fun e w' => (∃ (a : Option Addr) (n c : Nat) (y : Cg), e = .returned (.tuple #[gA (.slice a n c, y), .bool (hasG l k)])) ∧ Below w.heap.size w w' := by
  obtain ⟨a, cap, rfl, _⟩ := hs.row.shape
  have HSH := Lib.hid hs.shape
  have HS := Lib.hid (fun W (hW : More w W) => find98_gen l k _ W (by have := hs.len; omega) hs.asc hs.shape (hs.row.below hW.below))
  have HST := Lib.hid hs; clear hs
  go_enter Tryz.func50, Tryz.ntmps50
  go_wp2_with fail
  have HSB := Lib.hid (show (((w.alloc (.cells #[.slice a l.length cap] 33)).alloc (.cells #[.int .u8 k.kind, .int .i64 k.a, .int .i64 k.b, .int .i64 k.n] 53)).alloc (.cells #[.int .u8 0, .int .i64 0, .int .i64 0, .int .i64 0, .int .i64 0, .int .i64 0, .slice none 0 0] 58)).heap[w.heap.size]? = some (.cells #[.slice a l.length cap] 33) by
    rw [Below.heap_alloc _ _ _ (by simp; omega), Below.heap_alloc _ _ _ (by simp)]; exact alloc_last _ _)
  have HRB := Lib.hid (show (((w.alloc (.cells #[.slice a l.length cap] 33)).alloc (.cells #[.int .u8 k.kind, .int .i64 k.a, .int .i64 k.b, .int .i64 k.n] 53)).alloc (.cells #[.int .u8 0, .int .i64 0, .int .i64 0, .int .i64 0, .int .i64 0, .int .i64 0, .slice none 0 0] 58)).heap[w.heap.size + 1 + 1]? = some (.cells #[.int .u8 0, .int .i64 0, .int .i64 0, .int .i64 0, .int .i64 0, .int .i64 0, .slice none 0 0] 58) from alloc_at _ _ (by simp))
  have HL3 := Lib.hid (more_trans (more_trans (more_alloc w (.cells #[.slice a l.length cap] 33)) (more_alloc _ (.cells #[.int .u8 k.kind, .int .i64 k.a, .int .i64 k.b, .int .i64 k.n] 53))) (more_alloc _ (.cells #[.int .u8 0, .int .i64 0, .int .i64 0, .int .i64 0, .int .i64 0, .int .i64 0, .slice none 0 0] 58)))
  generalize ((w.alloc (.cells #[.slice a l.length cap] 33)).alloc (.cells #[.int .u8 k.kind, .int .i64 k.a, .int .i64 k.b, .int .i64 k.n] 53)).alloc (.cells #[.int .u8 0, .int .i64 0, .int .i64 0, .int .i64 0, .int .i64 0, .int .i64 0, .slice none 0 0] 58) = w3 at *
  refine (HS.out _ HL3.out).mono ?_
  rintro e w4 ⟨⟨p, hp, rfl⟩, hl4⟩
  have HP := Lib.hid hp
  have HL4 := Lib.hid (more_trans HL3.out hl4.1)
  have HSB4 := Lib.hid ((hl4.1.block (blk_lt HSB.out)).trans HSB.out)
  have HRB4 := Lib.hid ((hl4.1.block (blk_lt HRB.out)).trans HRB.out)
  clear hp hl4 HSB HRB HS
  obtain ⟨RB, HRE⟩ : ∃ RB, Hid (RB = w.heap.size + 1 + 1) := ⟨_, Lib.hid rfl⟩
  rw [← HRE.out] at HRB4 ⊢
  obtain ⟨z, hz⟩ : ∃ z, (l[p]?.map (·.2.k) == some k) = z := ⟨_, rfl⟩
  rw [hz]
  have r0 : w4.cell? ⟨RB, 0, none⟩ = some (.int .u8 0) := cell_of_blk HRB4.out rfl
  have r1 : w4.cell? ⟨RB, 1, none⟩ = some (.int .i64 0) := cell_of_blk HRB4.out rfl
  have r2 : w4.cell? ⟨RB, 2, none⟩ = some (.int .i64 0) := cell_of_blk HRB4.out rfl
  have r3 : w4.cell? ⟨RB, 3, none⟩ = some (.int .i64 0) := cell_of_blk HRB4.out rfl
  have r4 : w4.cell? ⟨RB, 4, none⟩ = some (.int .i64 0) := cell_of_blk HRB4.out rfl
  have r5 : w4.cell? ⟨RB, 5, none⟩ = some (.int .i64 0) := cell_of_blk HRB4.out rfl
  have r6 : w4.cell? ⟨RB, 6, none⟩ = some (.slice none 0 0) := cell_of_blk HRB4.out rfl
  have f0 := thaw HRB4.out 0
  have f1 := thaw HRB4.out 1
  have f2 := thaw HRB4.out 2
  have f3 := thaw HRB4.out 3
  have f4 := thaw HRB4.out 4
  have f5 := thaw HRB4.out 5
  have f6 := thaw HRB4.out 6
  have hbr := cell_lt r0
  have s0 : w4.cell? ⟨w.heap.size, 0, none⟩ = some (.slice a l.length cap) := cell_of_blk HSB4.out rfl
  have hsb := cell_lt s0
  cases z with
  | false =>
    have HN := Lib.hid (hasG_none HP.out HST.out.asc hz)
    clear hz
    go_wp2_with fail
    generalize hw5 : (((((w4.setCell ⟨RB, 0, none⟩ (.int .u8 0)).setCell ⟨RB, 1, none⟩ (.int .i64 0)).setCell ⟨RB, 2, none⟩ (.int .i64 0)).setCell ⟨RB, 3, none⟩ (.int .i64 0)).setCell ⟨RB, 4, none⟩ (.int .i64 0)).setCell ⟨RB, 5, none⟩ (.int .i64 0) = w5b
    generalize hw6 : w5b.setCell ⟨RB, 6, none⟩ (.slice none 0 0) = w5
    obtain ⟨HQ4, HZ4, HB4⟩ := set7 HRB4.out (W := w5) (by rw [← hw6, ← hw5])
    clear hw5 hw6 r0 r1 r2 r3 r4 r5 r6 f0 f1 f2 f3 f4 f5 f6
    have c0 : w5.cell? ⟨RB, 0, none⟩ = some (.int .u8 0) := cell_of_blk HQ4 rfl
    have c1 : w5.cell? ⟨RB, 1, none⟩ = some (.int .i64 0) := cell_of_blk HQ4 rfl
    have c2 : w5.cell? ⟨RB, 2, none⟩ = some (.int .i64 0) := cell_of_blk HQ4 rfl
    have c3 : w5.cell? ⟨RB, 3, none⟩ = some (.int .i64 0) := cell_of_blk HQ4 rfl
    have c4 : w5.cell? ⟨RB, 4, none⟩ = some (.int .i64 0) := cell_of_blk HQ4 rfl
    have c5 : w5.cell? ⟨RB, 5, none⟩ = some (.int .i64 0) := cell_of_blk HQ4 rfl
    have c6 : w5.cell? ⟨RB, 6, none⟩ = some (.slice none 0 0) := cell_of_blk HQ4 rfl
    exact bodyPost_ret (v := .tuple #[.agg #[.int .u8 0, .int .i64 0, .int .i64 0, .int .i64 0, .int .i64 0, .int .i64 0, .slice none 0 0], .bool false]) (by simp [results, Tryz.results50, go_sem, c0, c1, c2, c3, c4, c5, c6]) rfl ⟨⟨none, 0, 0, ⟨⟨0, 0, 0, 0⟩, 0, 0, []⟩, by rw [HN.out]; rfl⟩, HB4 _ _ HL4.out.below (by rw [HRE.out]; omega)⟩
  | true =>
    have hin : p < l.length := by
      by_cases h : p < l.length
      · exact h
      · rw [List.getElem?_eq_none (by omega)] at hz; simp at hz
    have hk : l[p].2.k = k := by rw [List.getElem?_eq_getElem hin] at hz; simpa using hz
    have HG := Lib.hid (hasG_some hin hk)
    clear hz hk
    have hrw := HST.out.row
    obtain ⟨b, off, rfl, _, hc⟩ := hrw.atC gC_len hin
    have g0 := HL4.out.cell (hc 0 (.int .u8 l[p].2.k.kind) rfl)
    have g1 := HL4.out.cell (hc 1 (.int .i64 l[p].2.k.a) rfl)
    have g2 := HL4.out.cell (hc 2 (.int .i64 l[p].2.k.b) rfl)
    have g3 := HL4.out.cell (hc 3 (.int .i64 l[p].2.k.n) rfl)
    have g4 := HL4.out.cell (hc 4 (.int .i64 l[p].2.t) rfl)
    have g5 := HL4.out.cell (hc 5 (.int .i64 l[p].2.d) rfl)
    have g6 := HL4.out.cell (hc 6 l[p].1 rfl)
    rw [Nat.add_zero] at g0
    obtain ⟨xa, xc, hxv⟩ := HSH.out _ (List.getElem_mem hin)
    rw [hxv] at g6
    have HGX := Lib.hid (show gA l[p] = .agg #[.int .u8 l[p].2.k.kind, .int .i64 l[p].2.k.a, .int .i64 l[p].2.k.b, .int .i64 l[p].2.k.n, .int .i64 l[p].2.t, .int .i64 l[p].2.d, .slice xa l[p].2.l.length xc] by unfold gA; rw [hxv])
    have HGA := Lib.hid (HST.out.arg _ (List.getElem_mem hin))
    have HKO := Lib.hid (HST.out.ok _ (List.getElem_mem hin)).args
    clear hc hrw hxv
    generalize l[p] = x at *
    have HC := Lib.hid (show ∀ W, More w W → Calls Tryz.prog 44 #[.agg #[.int .u8 x.2.k.kind, .int .i64 x.2.k.a, .int .i64 x.2.k.b, .int .i64 x.2.k.n, .int .i64 x.2.t, .int .i64 x.2.d, .slice xa x.2.l.length xc]] W fun e w' => (∃ ya yc, e = .returned (.agg #[.int .u8 x.2.k.kind, .int .i64 x.2.k.a, .int .i64 x.2.k.b, .int .i64 x.2.k.n, .int .i64 x.2.t, .int .i64 x.2.d, .slice ya x.2.l.length yc])) ∧ Below W.heap.size W w' from fun W hW => by
      have h1 := clone100_gen x W (HGA.out.more hW) (by have := HKO.out; unfold maxLen; omega) (by have := HKO.out; omega)
      rw [HGX.out] at h1
      refine h1.mono ?_
      rintro e w' ⟨⟨ya, yc, he, _⟩, hb⟩
      exact ⟨⟨ya, yc, he⟩, hb⟩)
    have hbg := cell_lt g0
    have hpl : (p : Int) < l.length := by omega
    have hl96 := HST.out.len
    go_wp2_with fail
    refine (HC.out _ HL4.out).mono ?_
    rintro e w5 ⟨⟨ya, yc, rfl⟩, hb5⟩
    have HL5 := Lib.hid (more_trans HL4.out (more_of hb5))
    have HRB5 := Lib.hid (((more_of hb5).block (blk_lt HRB4.out)).trans HRB4.out)
    clear hb5 r0 r1 r2 r3 r4 r5 r6 f0 f1 f2 f3 f4 f5 f6 hbr g0 g1 g2 g3 g4 g5 g6 hbg s0 hsb
    have r0 : w5.cell? ⟨RB, 0, none⟩ = some (.int .u8 0) := cell_of_blk HRB5.out rfl
    have r1 : w5.cell? ⟨RB, 1, none⟩ = some (.int .i64 0) := cell_of_blk HRB5.out rfl
    have r2 : w5.cell? ⟨RB, 2, none⟩ = some (.int .i64 0) := cell_of_blk HRB5.out rfl
    have r3 : w5.cell? ⟨RB, 3, none⟩ = some (.int .i64 0) := cell_of_blk HRB5.out rfl
    have r4 : w5.cell? ⟨RB, 4, none⟩ = some (.int .i64 0) := cell_of_blk HRB5.out rfl
    have r5 : w5.cell? ⟨RB, 5, none⟩ = some (.int .i64 0) := cell_of_blk HRB5.out rfl
    have r6 : w5.cell? ⟨RB, 6, none⟩ = some (.slice none 0 0) := cell_of_blk HRB5.out rfl
    have f0 := thaw HRB5.out 0
    have f1 := thaw HRB5.out 1
    have f2 := thaw HRB5.out 2
    have f3 := thaw HRB5.out 3
    have f4 := thaw HRB5.out 4
    have f5 := thaw HRB5.out 5
    have f6 := thaw HRB5.out 6
    have hbr := cell_lt r0
    go_wp2_with fail
    generalize hw5 : (((((w5.setCell ⟨RB, 0, none⟩ (.int .u8 x.2.k.kind)).setCell ⟨RB, 1, none⟩ (.int .i64 x.2.k.a)).setCell ⟨RB, 2, none⟩ (.int .i64 x.2.k.b)).setCell ⟨RB, 3, none⟩ (.int .i64 x.2.k.n)).setCell ⟨RB, 4, none⟩ (.int .i64 x.2.t)).setCell ⟨RB, 5, none⟩ (.int .i64 x.2.d) = w6b
    generalize hw6 : w6b.setCell ⟨RB, 6, none⟩ (.slice ya x.2.l.length yc) = w6
    obtain ⟨HQ4, HZ4, HB4⟩ := set7 HRB5.out (W := w6) (by rw [← hw6, ← hw5])
    clear hw5 hw6 r0 r1 r2 r3 r4 r5 r6 f0 f1 f2 f3 f4 f5 f6
    have c0 : w6.cell? ⟨RB, 0, none⟩ = some (.int .u8 x.2.k.kind) := cell_of_blk HQ4 rfl
    have c1 : w6.cell? ⟨RB, 1, none⟩ = some (.int .i64 x.2.k.a) := cell_of_blk HQ4 rfl
    have c2 : w6.cell? ⟨RB, 2, none⟩ = some (.int .i64 x.2.k.b) := cell_of_blk HQ4 rfl
    have c3 : w6.cell? ⟨RB, 3, none⟩ = some (.int .i64 x.2.k.n) := cell_of_blk HQ4 rfl
    have c4 : w6.cell? ⟨RB, 4, none⟩ = some (.int .i64 x.2.t) := cell_of_blk HQ4 rfl
    have c5 : w6.cell? ⟨RB, 5, none⟩ = some (.int .i64 x.2.d) := cell_of_blk HQ4 rfl
    have c6 : w6.cell? ⟨RB, 6, none⟩ = some (.slice ya x.2.l.length yc) := cell_of_blk HQ4 rfl
    exact bodyPost_ret (v := .tuple #[.agg #[.int .u8 x.2.k.kind, .int .i64 x.2.k.a, .int .i64 x.2.k.b, .int .i64 x.2.k.n, .int .i64 x.2.t, .int .i64 x.2.d, .slice ya x.2.l.length yc], .bool true]) (by simp [results, Tryz.results50, go_sem, c0, c1, c2, c3, c4, c5, c6]) rfl ⟨⟨ya, x.2.l.length, yc, x.2, by rw [HG.out]; rfl⟩, HB4 _ _ HL5.out.below (by rw [HRE.out]; omega)⟩
end Go.Proofs.YtemeppfikpafbaaGreatDoor

/- intervene.compareMessage (194), LessMessage (145); the orders of keys and of messages: compare (189, 193), keys (187), messages (191). -/
namespace Go.Proofs.YtemeppfikpafbaaGreatDoor
open Go.RowKit Go.Sort Go.Shelf
set_option maxRecDepth 100000 in
theorem cmpMsg194 : CmpSaid 98 mC cmpM3 := by
  intro x y w
  unfold mC
  have H := Lib.hid (show orI [cmpI x.f y.f, cmpI x.t y.t, cmpI x.n y.n] = cmpM3 x y from rfl)
  go_enter Tryz.func98, Tryz.ntmps98
  go_wp2_with fail
  obtain ⟨h1, h2, hm⟩ := boxed2 w (.cells #[.int .i64 x.f, .int .i64 x.t, .int .i64 x.n] 65) (.cells #[.int .i64 y.f, .int .i64 y.t, .int .i64 y.n] 65)
  generalize (w.alloc (.cells #[.int .i64 x.f, .int .i64 x.t, .int .i64 x.n] 65)).alloc (.cells #[.int .i64 y.f, .int .i64 y.t, .int .i64 y.n] 65) = w2 at *
  have a0 : w2.cell? ⟨w.heap.size, 0, none⟩ = some (.int .i64 x.f) := cell_of_blk h1 rfl
  have a1 : w2.cell? ⟨w.heap.size, 1, none⟩ = some (.int .i64 x.t) := cell_of_blk h1 rfl
  have a2 : w2.cell? ⟨w.heap.size, 2, none⟩ = some (.int .i64 x.n) := cell_of_blk h1 rfl
  have b0 : w2.cell? ⟨w.heap.size + 1, 0, none⟩ = some (.int .i64 y.f) := cell_of_blk h2 rfl
  have b1 : w2.cell? ⟨w.heap.size + 1, 1, none⟩ = some (.int .i64 y.t) := cell_of_blk h2 rfl
  have b2 : w2.cell? ⟨w.heap.size + 1, 2, none⟩ = some (.int .i64 y.n) := cell_of_blk h2 rfl
  have HM := Lib.hid hm
  clear h1 h2 hm
  have ha := cell_lt a0
  have hb := cell_lt b0
  refine wp_region_still_tail 15 (by kernel_rfl) (by kernel_rfl) ?_
  simp only [List.take_succ_cons, List.take_zero, List.drop_succ_cons, List.drop_zero]
  repeat still_step
  still_call (cmpN_any _ _ _)
  repeat still_step
  still_call (cmpN_any _ _ _)
  repeat still_step
  still_call (cmpN_any _ _ _)
  refine wpStill_nil ?_
  change wpList _ _ _ _ _ w2.drew
  generalize hw3 : w2.drew = w3
  have HM3 := Lib.hid (show Lay w w3 by rw [← hw3]; exact HM.out.trans (Lay.drew _))
  clear a0 a1 a2 b0 b1 b2 ha hb hw3
  go_wp2_with fail
  refine (or_any (fun _ => True) [cmpI x.f y.f, cmpI x.t y.t, cmpI x.n y.n] _ _ (show 3 ≤ 1000000 by decide) (row_lit trivial rfl)).mono ?_
  rw [H.out]
  rintro e w' ⟨rfl, hw'⟩
  rw [hw']
  clear hw' w'
  go_wp2_with fail
  go_ret
  exact ⟨rfl, HM3.out.trans (Lay.alloc _ _)⟩
set_option maxRecDepth 100000 in
theorem lessM145 (x y : M3) (w : World) : Calls Tryz.prog 81 #[mA x, mA y] w fun e w' => e = .returned (.bool (decide (cmpM3 x y < 0))) ∧ Lay w w' := by
  have HC := Lib.hid (fun w => cmpMsg194 x y w)
  unfold mA mC at *
  generalize hz : cmpM3 x y = z at *
  clear hz
  go_enter Tryz.func81, Tryz.ntmps81
  go_wp2_with fail
  obtain ⟨h1, h2, hm⟩ := boxed2 w (.cells #[.int .i64 x.f, .int .i64 x.t, .int .i64 x.n] 65) (.cells #[.int .i64 y.f, .int .i64 y.t, .int .i64 y.n] 65)
  generalize (w.alloc (.cells #[.int .i64 x.f, .int .i64 x.t, .int .i64 x.n] 65)).alloc (.cells #[.int .i64 y.f, .int .i64 y.t, .int .i64 y.n] 65) = w2 at *
  have a0 : w2.cell? ⟨w.heap.size, 0, none⟩ = some (.int .i64 x.f) := cell_of_blk h1 rfl
  have a1 : w2.cell? ⟨w.heap.size, 1, none⟩ = some (.int .i64 x.t) := cell_of_blk h1 rfl
  have a2 : w2.cell? ⟨w.heap.size, 2, none⟩ = some (.int .i64 x.n) := cell_of_blk h1 rfl
  have b0 : w2.cell? ⟨w.heap.size + 1, 0, none⟩ = some (.int .i64 y.f) := cell_of_blk h2 rfl
  have b1 : w2.cell? ⟨w.heap.size + 1, 1, none⟩ = some (.int .i64 y.t) := cell_of_blk h2 rfl
  have b2 : w2.cell? ⟨w.heap.size + 1, 2, none⟩ = some (.int .i64 y.n) := cell_of_blk h2 rfl
  have HM := Lib.hid hm
  clear h1 h2 hm
  go_wp2_with fail
  refine (HC.out w2).mono ?_
  rintro e w3 ⟨rfl, hm3⟩
  have HM3 := Lib.hid (HM.out.trans hm3)
  clear a0 a1 a2 b0 b1 b2 hm3
  go_wp2_with fail
  go_ret
  exact ⟨rfl, HM3.out⟩
end Go.Proofs.YtemeppfikpafbaaGreatDoor

/- Holds: message and arrivals; network.component (233), network.valid (195). -/
namespace Go.Proofs.YtemeppfikpafbaaGreatDoor
open Go.RowKit
structure Ar where
  tk : Int
  hd : Int
  l : List Int
instance : Inhabited Ar := ⟨⟨0, 0, []⟩⟩
abbrev AV := Value × Ar
def aC (p : AV) : List Value := [.int .i64 p.2.tk, .int .i64 p.2.hd, p.1]
theorem aC_len (p : AV) : (aC p).length = 3 := rfl
structure Ho where
  m : M3
  al : List AV
instance : Inhabited Ho := ⟨⟨⟨0, 0, 0⟩, []⟩⟩
abbrev HV := Value × Ho
def hC (p : HV) : List Value := [.int .i64 p.2.m.f, .int .i64 p.2.m.t, .int .i64 p.2.m.n, p.1]
theorem hC_len (p : HV) : (hC p).length = 4 := rfl
def hA (p : HV) : Value := .agg #[.int .i64 p.2.m.f, .int .i64 p.2.m.t, .int .i64 p.2.m.n, p.1]
/-- A hold in memory: its arrivals, and their arguments. -/
structure HAt (S : Nat → Prop) (w : World) (p : HV) : Prop where
  row : Row S w 3 p.2.al.length p.1 (flatC aC p.2.al)
  arg : ∀ q ∈ p.2.al, Row S w 1 q.2.l.length q.1 (flatC nC q.2.l) ∧ NilA q.1
  nil : NilA p.1
  len : p.2.al.length ≤ maxLen
  lens : ∀ q ∈ p.2.al, q.2.l.length ≤ maxLen
theorem HAt.mono {S S' : Nat → Prop} {w w' : World} {p : HV} (h : HAt S w p) (hS : ∀ b, S b → b < w.heap.size → S' b) (hw : ∀ b, S b → b < w.heap.size → w'.heap[b]? = w.heap[b]?) : HAt S' w' p :=
  ⟨(h.row.lt (by omega)).mono (fun b hb => hS b hb.1 hb.2) (fun b off x hb hc => by
    rw [← hc]; exact World.cell?_of_block (w := w) (a := ⟨b, off, none⟩) (hw b hb.1 hb.2)), fun q hq => ⟨((h.arg q hq).1.lt (by omega)).mono (fun b hb => hS b hb.1 hb.2) (fun b off x hb hc => by
    rw [← hc]; exact World.cell?_of_block (w := w) (a := ⟨b, off, none⟩) (hw b hb.1 hb.2)), (h.arg q hq).2⟩, h.nil, h.len, h.lens⟩
theorem HAt.more {S : Nat → Prop} {w w' : World} {p : HV} (h : HAt S w p) (hm : More w w') : HAt S w' p := h.mono (fun _ hb _ => hb) (fun _ _ hl => hm.block hl)
/-- The form of arrivals, and of a hold. -/
def arOkb : Int → List AV → Bool
  | _, [] => true
  | last, a :: r => if a.2.tk < last ∨ a.2.hd < 0 ∨ 8 ≤ a.2.hd ∨ 4 < a.2.l.length then false else arOkb a.2.tk r
def msgOkb (m : M3) : Bool := decide (0 ≤ m.f ∧ m.f < 8) && (decide (0 ≤ m.t ∧ m.t < 8) && decide (0 ≤ m.n ∧ m.n ≤ 65535))
def hoOkb (h : Ho) : Bool := msgOkb h.m && (decide (h.al.length ≤ 2) && arOkb 1 h.al)
theorem comp233_any (c : Int) (w : World) : Calls Tryz.prog 111 #[.int .i64 c] w fun e w' => e = .returned (.bool (decide (0 ≤ c ∧ c < 8))) ∧ w' = w := by
  by_cases h0 : 0 ≤ c
  · by_cases h1 : c < 8
    · rw [decide_eq_true (And.intro h0 h1)]
      go_enter Tryz.func111, Tryz.ntmps111
      go_wp2_with fail
      go_ret
      exact ⟨rfl, rfl⟩
    · rw [decide_eq_false (fun h => h1 h.2)]
      have h2 : decide (c < 8) = false := decide_eq_false h1
      clear h1
      go_enter Tryz.func111, Tryz.ntmps111
      go_wp2_with fail
      go_ret
      exact ⟨rfl, rfl⟩
  · rw [decide_eq_false (fun h => h0 h.1)]
    have h2 : decide (0 ≤ c) = false := decide_eq_false h0
    clear h0
    go_enter Tryz.func111, Tryz.ntmps111
    go_wp2_with fail
    go_ret
    exact ⟨rfl, rfl⟩
set_option maxRecDepth 100000 in
set_option maxHeartbeats 4000000 in
theorem valid195_any (p : HV) (w : World) (hp : HAt anyB w p) : Calls Tryz.prog 99 #[hA p] w fun e w' => e = .returned (.bool (hoOkb p.2)) ∧ Below w.heap.size w w' := by
  obtain ⟨v, ⟨⟨mf, mt, mn⟩, al⟩⟩ := p
  have hrow := hp.row
  have hlen := hp.len
  have HAR := Lib.hid (fun q (hq : q ∈ al) => And.intro (hp.arg q hq).1 (hp.lens q hq))
  clear hp
  unfold hA
  dsimp only at *
  obtain ⟨sa, sc, rfl, _⟩ := hrow.shape
  have HR := Lib.hid hrow; clear hrow
  unfold maxLen at hlen
  have HCO := Lib.hid (fun (c : Int) (W : World) => comp233_any c W)
  obtain ⟨E, HE⟩ : ∃ E, Hid (E = hoOkb ⟨⟨mf, mt, mn⟩, al⟩) := ⟨_, Lib.hid rfl⟩
  rw [← HE.out]
  unfold hoOkb msgOkb at HE
  dsimp only at HE
  obtain ⟨ln, HLN⟩ : ∃ ln, Hid (al.length = ln) := ⟨_, Lib.hid rfl⟩
  rw [HLN.out] at HR hlen HE ⊢
  have HB1 := Lib.hid (alloc_last w (.cells #[.int .i64 mf, .int .i64 mt, .int .i64 mn, .slice sa ln sc] 68))
  have HM1 := Lib.hid (more_alloc w (.cells #[.int .i64 mf, .int .i64 mt, .int .i64 mn, .slice sa ln sc] 68))
  obtain ⟨N, HN⟩ : ∃ N, Hid (N = w.heap.size) := ⟨_, Lib.hid rfl⟩
  rw [← HN.out] at HB1 ⊢
  go_enter Tryz.func99, Tryz.ntmps99
  go_upto_region 1 with (fail)
  rw [← HN.out]
  generalize w.alloc (.cells #[.int .i64 mf, .int .i64 mt, .int .i64 mn, .slice sa ln sc] 68) = w1 at *
  have c0 : w1.cell? ⟨N, 0, none⟩ = some (.int .i64 mf) := cell_of_blk HB1.out rfl
  have c1 : w1.cell? ⟨N, 1, none⟩ = some (.int .i64 mt) := cell_of_blk HB1.out rfl
  have c2 : w1.cell? ⟨N, 2, none⟩ = some (.int .i64 mn) := cell_of_blk HB1.out rfl
  have hbc := cell_lt c0
  have HB2 := Lib.hid (alloc_last w1 (.cells #[.int .i64 mf, .int .i64 mt, .int .i64 mn] 65))
  have HM2 := Lib.hid (more_alloc w1 (.cells #[.int .i64 mf, .int .i64 mt, .int .i64 mn] 65))
  go_upto_region 2 with (fail)
  have HB1b := Lib.hid ((HM2.out.block (blk_lt HB1.out)).trans HB1.out)
  generalize w1.alloc (.cells #[.int .i64 mf, .int .i64 mt, .int .i64 mn] 65) = w2 at *
  generalize w1.heap.size = MB at *
  clear c0 c1 c2 hbc
  have m0 : w2.cell? ⟨MB, 0, none⟩ = some (.int .i64 mf) := cell_of_blk HB2.out rfl
  have m1 : w2.cell? ⟨MB, 1, none⟩ = some (.int .i64 mt) := cell_of_blk HB2.out rfl
  have m2 : w2.cell? ⟨MB, 2, none⟩ = some (.int .i64 mn) := cell_of_blk HB2.out rfl
  have c3 : w2.cell? ⟨N, 3, none⟩ = some (.slice sa ln sc) := cell_of_blk HB1b.out rfl
  have hbm := cell_lt m0
  have hbc := cell_lt c3
  have HBE := Lib.hid (show Below N w w2 from by rw [HN.out]; exact (more_trans HM1.out HM2.out).below)
  go_wp2_with fail
  refine (HCO.out _ _).mono ?_
  rintro e wA ⟨rfl, hwA⟩
  have hwA := hwA.symm
  subst hwA
  obtain ⟨q1, HQ1⟩ : ∃ q1, Hid (decide (0 ≤ mf ∧ mf < 8) = q1) := ⟨_, Lib.hid rfl⟩
  rw [HQ1.out]
  rw [HQ1.out] at HE
  cases q1 with
  | false =>
    go_wp2_with fail
    go_ret
    exact ⟨by rw [HE.out]; rfl, HBE.out⟩
  | true =>
    go_wp2_with fail
    refine (HCO.out _ _).mono ?_
    rintro e wA ⟨rfl, hwA⟩
    have hwA := hwA.symm
    subst hwA
    obtain ⟨q2, HQ2⟩ : ∃ q2, Hid (decide (0 ≤ mt ∧ mt < 8) = q2) := ⟨_, Lib.hid rfl⟩
    rw [HQ2.out]
    rw [HQ2.out] at HE
    cases q2 with
    | false =>
      go_wp2_with fail
      go_ret
      exact ⟨by rw [HE.out]; rfl, HBE.out⟩
    | true =>
      by_cases hn0 : mn < 0
      · rw [decide_eq_false (fun h : 0 ≤ mn ∧ mn ≤ 65535 => by omega)] at HE
        go_wp2_with fail
        go_ret
        exact ⟨by rw [HE.out]; rfl, HBE.out⟩
      · by_cases hn1 : 65535 < mn
        · rw [decide_eq_false (fun h : 0 ≤ mn ∧ mn ≤ 65535 => by omega)] at HE
          have hd0 : decide (mn < 0) = false := decide_eq_false hn0
          go_wp2_with fail
          go_ret
          exact ⟨by rw [HE.out]; rfl, HBE.out⟩
        · rw [decide_eq_true (show 0 ≤ mn ∧ mn ≤ 65535 by omega)] at HE
          by_cases hl2 : 2 < ln
          · rw [decide_eq_false (fun h : ln ≤ 2 => by omega)] at HE
            have hd0 : decide (mn < 0) = false := decide_eq_false hn0
            have hd1 : decide (65535 < mn) = false := decide_eq_false hn1
            have hl3 : (2 : Int) < ln := by omega
            go_wp2_with fail
            go_ret
            exact ⟨by rw [HE.out]; rfl, HBE.out⟩
          · rw [decide_eq_true (show ln ≤ 2 by omega)] at HE
            have hd0 : decide (mn < 0) = false := decide_eq_false hn0
            have hd1 : decide (65535 < mn) = false := decide_eq_false hn1
            have hd2 : decide ((2 : Int) < ln) = false := decide_eq_false (by omega)
            have HL2 := Lib.hid (show ln ≤ 2 by omega)
            clear hn0 hn1 hl2 hlen
            go_wp2_with fail
            clear m0 m1 m2 c3 hbm hbc hd0 hd1 hd2
            go_loopw [4, 38] (fun u i wr => ∃ (j : Nat) (last : Int), j ≤ ln ∧ i = .int .i64 j ∧ u = .int .i64 last ∧ Hid (More w2 wr) ∧ Hid (arOkb last (al.drop j) = E)) (fun _ i _ => ln - (intOf i).toNat)
            case atStart => exact ⟨0, 1, Nat.zero_le _, rfl, rfl, Lib.hid (World.grownBy.refl _ _), Lib.hid (by rw [HE.out]; rfl)⟩
            case round =>
              obtain ⟨j, last, hj, rfl, rfl, HM, HEQ⟩ := hrel
              have HMW := Lib.hid (show More w wr from more_trans (more_trans HM1.out HM2.out) HM.out)
              have HBW := Lib.hid (show Below N w wr from by rw [HN.out]; exact HMW.out.below)
              have hln2 := HL2.out
              by_cases hlt : j < ln
              · have hjl : j < al.length := by rw [HLN.out]; exact hlt
                have hrw := HR.out
                rw [← HLN.out] at hrw
                obtain ⟨b, off, rfl, _, hc⟩ := hrw.atC aC_len hjl
                have g0 := HMW.out.cell (hc 0 (.int .i64 al[j].2.tk) rfl)
                have g1 := HMW.out.cell (hc 1 (.int .i64 al[j].2.hd) rfl)
                have g2 := HMW.out.cell (hc 2 al[j].1 rfl)
                rw [Nat.add_zero] at g0
                clear hc hrw
                obtain ⟨xa, xc, hxv, _⟩ := (HAR.out _ (List.getElem_mem hjl)).1.shape
                have hxl := (HAR.out _ (List.getElem_mem hjl)).2
                rw [hxv] at g2
                rw [List.drop_eq_getElem_cons hjl] at HEQ
                have HLT := Lib.hid hlt
                generalize al[j] = x at *
                clear hxv hjl
                unfold maxLen at hxl
                have hbg := cell_lt g0
                have HMO := Lib.hid (more_alloc wr (.cells #[.int .i64 x.2.tk, .int .i64 x.2.hd, .slice xa x.2.l.length xc] 72))
                have HXB := Lib.hid (alloc_last wr (.cells #[.int .i64 x.2.tk, .int .i64 x.2.hd, .slice xa x.2.l.length xc] 72))
                go_upto_region 8 with (fail)
                clear g0 g1 g2 hbg
                have HB9 := Lib.hid (show Below N w _ from HBW.out.trans (HMO.out.below.mono (by rw [HN.out]; exact HMW.out.size)))
                generalize wr.alloc (.cells #[.int .i64 x.2.tk, .int .i64 x.2.hd, .slice xa x.2.l.length xc] 72) = w5 at *
                generalize wr.heap.size = XB at *
                have x0 : w5.cell? ⟨XB, 0, none⟩ = some (.int .i64 x.2.tk) := cell_of_blk HXB.out rfl
                have x1 : w5.cell? ⟨XB, 1, none⟩ = some (.int .i64 x.2.hd) := cell_of_blk HXB.out rfl
                have x2 : w5.cell? ⟨XB, 2, none⟩ = some (.slice xa x.2.l.length xc) := cell_of_blk HXB.out rfl
                have hbx := cell_lt x0
                by_cases hbad : x.2.tk < last ∨ x.2.hd < 0 ∨ 8 ≤ x.2.hd ∨ 4 < x.2.l.length
                · have HF := Lib.hid (show false = E by rw [← HEQ.out, arOkb, if_pos hbad])
                  by_cases h1 : x.2.tk < last
                  · go_wp2_with fail
                    go_ret
                    exact ⟨by rw [← HF.out]; rfl, HB9.out⟩
                  · have e1 : decide (x.2.tk < last) = false := decide_eq_false h1
                    by_cases h2 : x.2.hd < 0
                    · go_wp2_with fail
                      go_ret
                      exact ⟨by rw [← HF.out]; rfl, HB9.out⟩
                    · have e2 : decide (x.2.hd < 0) = false := decide_eq_false h2
                      by_cases h3 : 8 ≤ x.2.hd
                      · go_wp2_with fail
                        go_ret
                        exact ⟨by rw [← HF.out]; rfl, HB9.out⟩
                      · have e3 : decide (8 ≤ x.2.hd) = false := decide_eq_false h3
                        have h4 : (4 : Int) < x.2.l.length := by omega
                        clear hbad h1 h2 h3
                        go_wp2_with fail
                        go_ret
                        exact ⟨by rw [← HF.out]; rfl, HB9.out⟩
                · have HF := Lib.hid (show arOkb x.2.tk (al.drop (j + 1)) = E by rw [← HEQ.out, arOkb, if_neg hbad])
                  have e1 : decide (x.2.tk < last) = false := decide_eq_false (by omega)
                  have e2 : decide (x.2.hd < 0) = false := decide_eq_false (by omega)
                  have e3 : decide (8 ≤ x.2.hd) = false := decide_eq_false (by omega)
                  have e4 : decide ((4 : Int) < x.2.l.length) = false := decide_eq_false (by omega)
                  clear hbad
                  have hlt9 := HLT.out
                  go_wp2_with fail
                  go_roundw
                  case rel => exact ⟨j + 1, x.2.tk, by omega, by go_num, rfl, Lib.hid (more_trans HM.out HMO.out), HF⟩
                  case measure => have := HLT.out; simp [intOf]; omega
              · obtain rfl : j = ln := by omega
                rw [List.drop_of_length_le (by rw [HLN.out]; exact Nat.le_refl _)] at HEQ
                go_wp2_with fail
                go_ret
                exact ⟨by rw [← HEQ.out]; rfl, HBW.out⟩
end Go.Proofs.YtemeppfikpafbaaGreatDoor

/- slices.IndexFunc, slices.ContainsFunc at holds (249, 234), the closure of held (235), held (196), cloneArrival (197). -/
namespace Go.Proofs.YtemeppfikpafbaaGreatDoor
open Go.RowKit
set_option maxRecDepth 100000 in
set_option maxHeartbeats 1000000 in
theorem indexH_any (l : List HV) (p : HV → Bool) (v : Value) (B : Addr) (w : World) (hl : l.length < 1000000) (h : Row anyB w 4 l.length v (flatC hC l))
    (hcl : ∀ x ∈ l, ∀ W, More w W → Calls Tryz.prog 113 #[.agg #[.int .i64 x.2.m.f, .int .i64 x.2.m.t, .int .i64 x.2.m.n, x.1], .pointer (some B)] W fun e w' => e = .returned (.bool (p x)) ∧ More W w') :
    Calls Tryz.prog 115 #[v, .func (.func 113) #[] #[.pointer (some B)]] w fun e w' => (∃ i : Int, e = .returned (.int .i64 i) ∧ decide (0 ≤ i) = l.any p) ∧ More w w' := by
  obtain ⟨a, cap, rfl, _⟩ := h.shape
  have HR := Lib.hid h; clear h
  have HCL := Lib.hid hcl; clear hcl
  go_enter Tryz.func115, Tryz.ntmps115
  go_wp2_with fail
  go_loopw [8] (fun i wr => ∃ j : Nat, j ≤ l.length ∧ i = .int .i64 j ∧ Hid (More w wr) ∧ Hid ((l.take j).any p = false)) (fun i _ => l.length - (intOf i).toNat)
  case atStart => exact ⟨0, Nat.zero_le _, rfl, Lib.hid (World.grownBy.refl _ _), Lib.hid (by simp)⟩
  case round =>
    obtain ⟨j, hj, rfl, HM, HN⟩ := hrel
    by_cases hlt : j < l.length
    · obtain ⟨b, off, rfl, _, hc⟩ := HR.out.atC hC_len hlt
      have g0 := HM.out.cell (hc 0 (.int .i64 l[j].2.m.f) rfl)
      have g1 := HM.out.cell (hc 1 (.int .i64 l[j].2.m.t) rfl)
      have g2 := HM.out.cell (hc 2 (.int .i64 l[j].2.m.n) rfl)
      have g3 := HM.out.cell (hc 3 (l[j].1) rfl)
      rw [Nat.add_zero] at g0
      clear hc
      have HT := Lib.hid (show l.take (j + 1) = l.take j ++ [l[j]] from List.take_succ_eq_append_getElem hlt)
      have HX := Lib.hid (HCL.out l[j] (List.getElem_mem hlt))
      have HANY := Lib.hid (show p l[j] = true → l.any p = true from fun h => List.any_eq_true.2 ⟨_, List.getElem_mem hlt, h⟩)
      generalize l[j] = x at *
      obtain ⟨q, HQ⟩ : ∃ q, Hid (p x = q) := ⟨_, Lib.hid rfl⟩
      rw [HQ.out] at HX HANY
      have hbg := cell_lt g0
      go_wp2_with fail
      refine (HX.out _ HM.out).mono ?_
      rintro e w2 ⟨rfl, hm2⟩
      have HM2 := Lib.hid (more_trans HM.out hm2)
      clear hm2 g0 g1 g2 g3 hbg
      cases q with
      | true =>
        go_wp2_with fail
        go_ret
        exact ⟨⟨j, rfl, by rw [HANY.out (by simp), decide_eq_true_iff]; omega⟩, HM2.out⟩
      | false =>
        go_wp2_with fail
        go_roundw
        case rel => exact ⟨j + 1, by omega, by go_num, HM2, Lib.hid (by rw [HT.out, List.any_append, HN.out]; simp [HQ.out])⟩
        case measure => simp [intOf]; omega
    · obtain rfl : j = l.length := by omega
      rw [List.take_of_length_le (Nat.le_refl _)] at HN
      go_wp2_with fail
      go_ret
      exact ⟨⟨-1, rfl, by rw [HN.out]; rfl⟩, HM.out⟩
set_option maxRecDepth 100000 in
theorem containsH_any (l : List HV) (p : HV → Bool) (v : Value) (B : Addr) (w : World) (hl : l.length < 1000000) (h : Row anyB w 4 l.length v (flatC hC l))
    (hcl : ∀ x ∈ l, ∀ W, More w W → Calls Tryz.prog 113 #[.agg #[.int .i64 x.2.m.f, .int .i64 x.2.m.t, .int .i64 x.2.m.n, x.1], .pointer (some B)] W fun e w' => e = .returned (.bool (p x)) ∧ More W w') :
    Calls Tryz.prog 112 #[v, .func (.func 113) #[] #[.pointer (some B)]] w fun e w' => e = .returned (.bool (l.any p)) ∧ More w w' := by
  obtain ⟨a, cap, rfl, _⟩ := h.shape
  have HI := Lib.hid (indexH_any l p _ B w hl h hcl)
  clear h hcl
  go_enter Tryz.func112, Tryz.ntmps112
  go_wp2_with fail
  refine HI.out.mono ?_
  rintro e w2 ⟨⟨i, rfl, hi⟩, hm⟩
  have HM := Lib.hid hm
  have HD := Lib.hid hi
  clear hm hi
  go_wp2_with fail
  go_ret
  exact ⟨by rw [← HD.out]; rfl, HM.out⟩
set_option maxRecDepth 100000 in
theorem held235_any (x : HV) (m : M3) (B : Nat) (w : World) (hx : ∃ a n c, x.1 = .slice a n c) (hB : w.heap[B]? = some (.cells #[.int .i64 m.f, .int .i64 m.t, .int .i64 m.n] 65)) :
    Calls Tryz.prog 113 #[.agg #[.int .i64 x.2.m.f, .int .i64 x.2.m.t, .int .i64 x.2.m.n, x.1], .pointer (some ⟨B, 0, none⟩)] w fun e w' => e = .returned (.bool (decide (x.2.m = m))) ∧ More w w' := by
  obtain ⟨xa, xn, xc, hxv⟩ := hx
  rw [hxv]
  clear hxv
  have heq := fun W => run_eqM x.2.m m W
  generalize decide (x.2.m = m) = q at *
  have HX := Lib.hid (alloc_last w (.cells #[.int .i64 x.2.m.f, .int .i64 x.2.m.t, .int .i64 x.2.m.n, .slice xa xn xc] 68))
  have HM := Lib.hid (more_alloc w (.cells #[.int .i64 x.2.m.f, .int .i64 x.2.m.t, .int .i64 x.2.m.n, .slice xa xn xc] 68))
  have HBB := Lib.hid ((HM.out.block (blk_lt hB)).trans hB)
  clear hB
  go_enter Tryz.func113, Tryz.ntmps113
  go_upto_region 1 with (fail)
  generalize w.alloc (.cells #[.int .i64 x.2.m.f, .int .i64 x.2.m.t, .int .i64 x.2.m.n, .slice xa xn xc] 68) = w1 at *
  generalize w.heap.size = XB at *
  have x0 : w1.cell? ⟨XB, 0, none⟩ = some (.int .i64 x.2.m.f) := cell_of_blk HX.out rfl
  have x1 : w1.cell? ⟨XB, 1, none⟩ = some (.int .i64 x.2.m.t) := cell_of_blk HX.out rfl
  have x2 : w1.cell? ⟨XB, 2, none⟩ = some (.int .i64 x.2.m.n) := cell_of_blk HX.out rfl
  have b0 : w1.cell? ⟨B, 0, none⟩ = some (.int .i64 m.f) := cell_of_blk HBB.out rfl
  have b1 : w1.cell? ⟨B, 1, none⟩ = some (.int .i64 m.t) := cell_of_blk HBB.out rfl
  have b2 : w1.cell? ⟨B, 2, none⟩ = some (.int .i64 m.n) := cell_of_blk HBB.out rfl
  have hbx := cell_lt x0
  have hbb := cell_lt b0
  go_wp2_with fail
  go_ret
  exact ⟨rfl, HM.out⟩
set_option maxRecDepth 100000 in
theorem held196_any (l : List HV) (m : M3) (NB : Nat) (hv : Value) (w : World) (hl : l.length < 1000000) (hs : ∀ x ∈ l, ∃ a n c, x.1 = .slice a n c) (hc : w.cell? ⟨NB, 1, none⟩ = some hv) (hr : Row anyB w 4 l.length hv (flatC hC l)) :
    Calls Tryz.prog 100 #[.pointer (some ⟨NB, 0, none⟩), .agg #[.int .i64 m.f, .int .i64 m.t, .int .i64 m.n]] w fun e w' => e = .returned (.bool (l.any fun x => decide (x.2.m = m))) ∧ More w w' := by
  obtain ⟨a, cap, rfl, _⟩ := hr.shape
  have HX := Lib.hid (alloc_last w (.cells #[.int .i64 m.f, .int .i64 m.t, .int .i64 m.n] 65))
  have HM := Lib.hid (more_alloc w (.cells #[.int .i64 m.f, .int .i64 m.t, .int .i64 m.n] 65))
  have HR := Lib.hid (hr.below HM.out.below)
  have HC := Lib.hid (HM.out.cell hc)
  have HS := Lib.hid hs
  clear hr hc hs
  generalize hq : (l.any fun x => decide (x.2.m = m)) = q
  have HQ := Lib.hid hq; clear hq
  go_enter Tryz.func100, Tryz.ntmps100
  go_upto_region 1 with (fail)
  generalize w.alloc (.cells #[.int .i64 m.f, .int .i64 m.t, .int .i64 m.n] 65) = w1 at *
  generalize w.heap.size = B at *
  have HCC := Lib.hid (containsH_any l (fun x => decide (x.2.m = m)) _ ⟨B, 0, none⟩ w1 hl HR.out (fun x hx W hW => held235_any x m B W (HS.out x hx) ((hW.block (blk_lt HX.out)).trans HX.out)))
  rw [HQ.out] at HCC
  have c1 : w1.cell? ⟨NB, 1, none⟩ = some (.slice a l.length cap) := HC.out
  have hbc := cell_lt c1
  go_wp2_with fail
  refine HCC.out.mono ?_
  rintro e w2 ⟨rfl, hm2⟩
  have HM2 := Lib.hid (more_trans HM.out hm2)
  clear hm2
  go_wp2_with fail
  go_ret
  exact ⟨rfl, HM2.out⟩
end Go.Proofs.YtemeppfikpafbaaGreatDoor

