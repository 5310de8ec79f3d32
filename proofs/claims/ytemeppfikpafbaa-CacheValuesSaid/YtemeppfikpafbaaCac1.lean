/- (cache.entry).applies (87), cache.New (36), Len (44), Hits (45). -/
import Derived.Test.YtemeppfikpafbaaCho7
namespace Go.Proofs.Ytemeppfikpafbaa
open Go.RowKit
/-- An entry of the cache. -/
structure Ent where
  ch : List Ch
  ho : List M3
  us : List Ch
  vd : Bool
def appB (e : Ent) (s : List Ch) (h : List M3) : Bool := decide (e.ho = h) && (decide ((minusL s e.ch).length = 0) && !(e.us.any fun x => !decide (x ∈ s)))
set_option maxRecDepth 100000 in
set_option maxHeartbeats 2000000 in
theorem applies_any (e : Ent) (s : List Ch) (h : List M3) (cs hs us sv hv : Value) (w : World) (hl : e.ch.length ≤ 100000 ∧ e.ho.length ≤ 100000 ∧ e.us.length ≤ 100000 ∧ s.length ≤ 100000 ∧ h.length ≤ 100000)
    (ha : AscC e.ch) (hb : AscC s) (h1 : Row anyB w 7 e.ch.length cs (flatC chC e.ch)) (h2 : Row anyB w 3 e.ho.length hs (flatC mC e.ho)) (h3 : Row anyB w 7 e.us.length us (flatC chC e.us)) (h4 : Row anyB w 7 s.length sv (flatC chC s)) (h5 : Row anyB w 3 h.length hv (flatC mC h)) :
    Calls Try.prog 87 #[.agg #[cs, hs, us, .bool e.vd], .agg #[sv], hv] w fun en w' => en = .returned (.bool (appB e s h)) ∧ More w w' := by
  obtain ⟨ca, cc, rfl, _⟩ := h1.shape
  obtain ⟨ha', hc, rfl, _⟩ := h2.shape
  obtain ⟨ua, uc, rfl, _⟩ := h3.shape
  obtain ⟨sa, sc, rfl, _⟩ := h4.shape
  obtain ⟨va, vc, rfl, _⟩ := h5.shape
  have HEQ := Lib.hid (fun W (hW : More w W) => equalM_any e.ho h _ _ W (by omega) (by omega) (h2.below hW.below) (h5.below hW.below))
  have HMI := Lib.hid (fun W (hW : More w W) => minus_any s e.ch _ _ W (by omega) (by omega) ha (h4.below hW.below) (h1.below hW.below))
  have HCO := Lib.hid (fun W (SB : Nat) (hW : More w W) (hS : W.heap[SB]? = some (.cells #[.slice sa s.length sc] 73)) => containsC_any e.us (fun x => !decide (x ∈ s)) (.slice ua e.us.length uc) ⟨SB, 0, none⟩ W (by omega) (h3.below hW.below) (fun x _ W' hW' => (clos131_any s x _ SB W' (by omega) hb (h4.below (more_trans hW hW').below) ((hW'.block (blk_lt hS)).trans hS)).mono (fun _ _ hh => ⟨hh.1, hh.2.1⟩)))
  have HAP := Lib.hid (show appB e s h = (decide (e.ho = h) && (decide ((minusL s e.ch).length = 0) && !(e.us.any fun x => !decide (x ∈ s)))) from rfl)
  have HML := Lib.hid (show (minusL s e.ch).length ≤ 100000 from Nat.le_trans (List.length_filter_le _ _) hl.2.2.2.1)
  rw [HAP.out]
  generalize (minusL s e.ch).length = n at *
  generalize (e.us.any fun x => !decide (x ∈ s)) = q at *
  generalize decide (e.ho = h) = z at *
  clear ha hb h1 h2 h3 h4 h5 hl HAP
  generalize e.ch.length = nc at *
  generalize e.ho.length = nh at *
  generalize e.us.length = nu at *
  generalize s.length = ns at *
  generalize h.length = nv at *
  generalize e.vd = vd at *
  go_enter Try.func87, Try.ntmps87
  go_upto_region 1 with (fail)
  obtain ⟨b1, b2, hm⟩ := boxed2 w (.cells #[.slice ca nc cc, .slice ha' nh hc, .slice ua nu uc, .bool vd] 148) (.cells #[.slice sa ns sc] 73)
  generalize (w.alloc (.cells #[.slice ca nc cc, .slice ha' nh hc, .slice ua nu uc, .bool vd] 148)).alloc (.cells #[.slice sa ns sc] 73) = w2 at *
  have HB1 := Lib.hid b1
  have HB2 := Lib.hid b2
  have HM2 := Lib.hid hm.1
  obtain ⟨EB, HEB⟩ : ∃ EB, Hid (EB = w.heap.size) := ⟨_, Lib.hid rfl⟩
  obtain ⟨SB, HSB⟩ : ∃ SB, Hid (SB = w.heap.size + 1) := ⟨_, Lib.hid rfl⟩
  rw [← HSB.out] at HB2 ⊢
  rw [← HEB.out] at HB1 ⊢
  clear b1 b2 hm
  have c0 : w2.cell? ⟨EB, 0, none⟩ = some (.slice ca nc cc) := cell_of_blk HB1.out rfl
  have c1 : w2.cell? ⟨EB, 1, none⟩ = some (.slice ha' nh hc) := cell_of_blk HB1.out rfl
  have hcb := cell_lt c1
  go_wp2_with fail
  refine (HEQ.out _ HM2.out).mono ?_
  rintro en w3 ⟨rfl, hl3⟩
  have HM3 := Lib.hid (more_trans HM2.out hl3.1)
  have HB13 := Lib.hid ((hl3.1.block (blk_lt HB1.out)).trans HB1.out)
  have HB23 := Lib.hid ((hl3.1.block (blk_lt HB2.out)).trans HB2.out)
  clear hl3 c0 c1 hcb
  cases z with
  | false =>
    go_wp2_with fail
    go_ret
    exact ⟨rfl, HM3.out⟩
  | true =>
    have c0 : w3.cell? ⟨EB, 0, none⟩ = some (.slice ca nc cc) := cell_of_blk HB13.out rfl
    have s0 : w3.cell? ⟨SB, 0, none⟩ = some (.slice sa ns sc) := cell_of_blk HB23.out rfl
    have hcb := cell_lt c0
    have hsb := cell_lt s0
    go_wp2_with fail
    refine (HMI.out _ HM3.out).mono ?_
    rintro en w4 ⟨⟨ma, mc, rfl⟩, hm4⟩
    have HM4 := Lib.hid (more_trans HM3.out hm4)
    have HB14 := Lib.hid ((hm4.block (blk_lt HB13.out)).trans HB13.out)
    have HB24 := Lib.hid ((hm4.block (blk_lt HB23.out)).trans HB23.out)
    clear hm4 c0 s0 hcb hsb
    rcases Nat.eq_zero_or_pos n with hn | hn
    · subst hn
      have c2 : w4.cell? ⟨EB, 2, none⟩ = some (.slice ua nu uc) := cell_of_blk HB14.out rfl
      have hcb := cell_lt c2
      go_wp2_with fail
      refine (HCO.out _ SB HM4.out HB24.out).mono ?_
      rintro en w5 ⟨rfl, hm5⟩
      have HM5 := Lib.hid (more_trans HM4.out hm5)
      clear hm5 c2 hcb
      go_wp2_with fail
      go_ret
      exact ⟨by simp, HM5.out⟩
    · have hd : decide (n = 0) = false := by simp; omega
      have HD := Lib.hid hd
      clear hd
      go_wp2_with fail
      go_ret
      exact ⟨by rw [HD.out]; simp, HM4.out⟩
theorem newCache_any (n : Int) (w : World) : Calls Try.prog 36 #[.int .i64 n] w fun e w' => e = .returned (.pointer (some ⟨w.heap.size, 0, none⟩)) ∧ w' = w.alloc (.cells #[.int .i64 (max 0 n), .slice none 0 0, .int .i64 0] 146) := by
  go_enter Try.func36, Try.ntmps36
  go_wp2_with fail
  go_ret
  exact ⟨rfl, rfl⟩
theorem lenNil_any (w : World) : Calls Try.prog 44 #[.pointer none] w fun e w' => e = .returned (.int .i64 0) ∧ w' = w := by
  go_enter Try.func44, Try.ntmps44
  go_wp2_with fail
  go_ret
  exact ⟨rfl, rfl⟩
theorem len_any (CB : Nat) (a : Option Addr) (n cap : Nat) (l h : Value) (w : World) (hb : w.heap[CB]? = some (.cells #[l, .slice a n cap, h] 146)) : Calls Try.prog 44 #[.pointer (some ⟨CB, 0, none⟩)] w fun e w' => e = .returned (.int .i64 n) ∧ w' = w := by
  have c1 : w.cell? ⟨CB, 1, none⟩ = some (.slice a n cap) := cell_of_blk hb rfl
  have hcb := cell_lt c1
  clear hb
  go_enter Try.func44, Try.ntmps44
  go_wp2_with fail
  go_ret
  exact ⟨rfl, rfl⟩
theorem hitsNil_any (w : World) : Calls Try.prog 45 #[.pointer none] w fun e w' => e = .returned (.int .i64 0) ∧ w' = w := by
  go_enter Try.func45, Try.ntmps45
  go_wp2_with fail
  go_ret
  exact ⟨rfl, rfl⟩
theorem hits_any (CB : Nat) (n : Int) (l h : Value) (w : World) (hb : w.heap[CB]? = some (.cells #[l, h, .int .i64 n] 146)) : Calls Try.prog 45 #[.pointer (some ⟨CB, 0, none⟩)] w fun e w' => e = .returned (.int .i64 n) ∧ w' = w := by
  have c1 : w.cell? ⟨CB, 2, none⟩ = some (.int .i64 n) := cell_of_blk hb rfl
  have hcb := cell_lt c1
  clear hb
  go_enter Try.func45, Try.ntmps45
  go_wp2_with fail
  go_ret
  exact ⟨rfl, rfl⟩
set_option maxRecDepth 100000 in
set_option maxHeartbeats 1000000 in
theorem compact_any (l : List M3) (v : Value) (w : World) (hl : l.length ≤ 100000) (hne : ∀ j (h : j + 1 < l.length), l[j + 1] ≠ l[j]) (h : Row anyB w 3 l.length v (flatC mC l)) :
    Calls Try.prog 84 #[v] w fun e w' => e = .returned v ∧ Lay w w' := by
  obtain ⟨a, cap, rfl, _⟩ := h.shape
  have HR := Lib.hid h; clear h
  have HNE := Lib.hid hne; clear hne
  have HLL := Lib.hid hl
  by_cases h2 : l.length < 2
  · go_enter Try.func84, Try.ntmps84
    go_wp2_with fail
    go_ret
    exact ⟨rfl, Lay.refl _⟩
  · have h2' : 2 ≤ l.length := by omega
    have t2 : decide ((l.length : Int) < 2) = false := by simp; omega
    clear h2
    go_enter Try.func84, Try.ntmps84
    go_wp2_with fail
    go_loopw [3] (fun i wr => ∃ j : Nat, i = .int .i64 ((j + 1 : Nat) : Int) ∧ Hid (j ≤ l.length) ∧ Hid (Lay w wr)) (fun i _ => l.length - (intOf i).toNat)
    case atStart => exact ⟨0, rfl, Lib.hid (Nat.zero_le _), Lib.hid (Lay.refl _)⟩
    case round =>
    obtain ⟨j, rfl, HJ, HMy⟩ := hrel
    by_cases hlt : j + 1 < l.length
    · have hjl : j < l.length := by omega
      obtain ⟨b, off, rfl, _, hc⟩ := HR.out.atC mC_len hlt
      have g0 := HMy.out.1.cell (hc 0 (.int .i64 l[j + 1].f) rfl)
      have g1 := HMy.out.1.cell (hc 1 (.int .i64 l[j + 1].t) rfl)
      have g2 := HMy.out.1.cell (hc 2 (.int .i64 l[j + 1].n) rfl)
      rw [Nat.add_zero] at g0
      clear hc
      obtain ⟨b', off', hab, _, hc⟩ := HR.out.atC mC_len hjl
      cases hab
      have e0 := HMy.out.1.cell (hc 0 (.int .i64 l[j].f) rfl)
      have e1 := HMy.out.1.cell (hc 1 (.int .i64 l[j].t) rfl)
      have e2 := HMy.out.1.cell (hc 2 (.int .i64 l[j].n) rfl)
      rw [Nat.add_zero] at e0
      clear hc
      have hne := HNE.out j hlt
      generalize l[j + 1] = x at *
      generalize l[j] = y at *
      have heq := fun W => run_eqM x y W
      rw [decide_eq_false hne] at heq
      have hwj : IntKind.i64.wrap (j : Int) = j := by rw [IntKind.wrap_i64]; omega
      have hbg := cell_lt g0
      clear hne
      go_upto_region 6 with (fail)
      go_quiet (fail)
      go_wp2_with fail
      go_roundw
      case rel => exact ⟨j + 1, by go_num, Lib.hid (by omega), Lib.hid (HMy.out.trans (Lay.drewN wr nq))⟩
      case measure => simp [intOf]; omega
    · have hge : l.length ≤ j + 1 := by omega
      clear hlt
      go_wp2_with fail
      go_ret
      exact ⟨rfl, HMy.out⟩
end Go.Proofs.Ytemeppfikpafbaa
