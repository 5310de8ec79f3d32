/- The walk of CacheLimits (11). -/
import Derived.Test.YtemeppfikpafbaaPut2B
import Derived.Test.YtemeppfikpafbaaAwkC2
import Derived.Deep.DeepCutAuto
namespace Go.Proofs.Ytemeppfikpafbaa
open Go.RowKit
theorem entL_eq (i : Nat) : entL i = entB (2 ^ i) 0 (2 ^ i) false (decide (i % 2 = 0)) := rfl
theorem put_limits (CB most i M : Nat) (cv : Value) (raw : List RawE) (b : Nat) (sa ka : Option Addr) (sc kc : Nat) (W : World) (hb : b = 2 ^ i) (hi : i < 16) (hC : CState S1 W CB (most : Int) 0 (entsL most i) M cv raw) (hM : M ≤ W.heap.size)
    (hs : Row (fun x => M ≤ x ∧ S1 x) W 7 (setCh b).length (.slice sa (setCh b).length sc) (flatC chC (setCh b)))
    (hk : Row anyB W 4 ((pick (ord16 false) b).map keyI).length (.slice ka (pick (ord16 false) b).length kc) (flatC kC ((pick (ord16 false) b).map keyI))) :
    Calls Try.prog 37 #[.pointer (some ⟨CB, 0, none⟩), .agg #[.slice sa (setCh b).length sc], .slice none 0 0, .slice ka (pick (ord16 false) b).length kc, .bool (decide (i % 2 = 0))] W fun e w' => e = .returned (.int .i64 0) ∧ (∃ cv' raw', CState S1 w' CB (most : Int) 0 (entsL most (i + 1)) w'.heap.size cv' raw') ∧ Below CB W w' := by
  subst hb
  have hl := entsL_len most i
  refine (put2_bits S1 CB most 0 (entsL most i) M cv raw (2 ^ i) 0 (2 ^ i) false false _ (.slice none 0 0) _ (decide (i % 2 = 0)) W hC hM (fun _ _ => trivial) hs (row_none3 false W) nil_none hk (by omega) (by omega)).mono ?_
  intro e w' hr
  obtain ⟨rfl, cv', raw', hc, _⟩ := hr.yes ((putok_bits (two_lt hi) false false).2 (Nat.and_self _))
  rw [ent_bits, ← entL_eq, entsL_step] at hc
  exact ⟨rfl, ⟨_, _, hc⟩, hr.below⟩
theorem get_limits_any (CB n most i M : Nat) (hits : Int) (cv : Value) (raw : List RawE) (b : Nat) (sa : Option Addr) (sc : Nat) (W : World) (hb : b = 2 ^ i) (hn : n ≤ 16) (hi : i < n) (hh : 0 ≤ hits ∧ hits ≤ 100000) (hC : CState S1 W CB (most : Int) hits (entsL most n) M cv raw)
    (hs : Row anyB W 7 (setCh b).length (.slice sa (setCh b).length sc) (flatC chC (setCh b))) :
    Calls Try.prog 42 #[.pointer (some ⟨CB, 0, none⟩), .agg #[.slice sa (setCh b).length sc], .slice none 0 0] W fun e w' => e = .returned (.tuple #[.bool (decide (n - most ≤ i) && decide (i % 2 = 0)), .bool (decide (n - most ≤ i))]) ∧ (∃ hits' : Int, 0 ≤ hits' ∧ hits' ≤ hits + 1 ∧ CState S1 w' CB (most : Int) hits' (entsL most n) M cv raw) ∧ Below CB W w' := by
  subst hb
  have hl := entsL_len most n
  have := get_bits S1 CB most hits (entsL most n) M cv raw (2 ^ i) 0 false _ (.slice none 0 0) W hC hs (row_none3 false W) nil_none (by omega) hh
  rw [get_limits hn hi] at this
  refine this.mono ?_
  rintro e w' ⟨⟨rfl, hc⟩, hbl⟩
  refine ⟨rfl, ⟨_, ?_, ?_, hc⟩, hbl⟩
  · unfold getH; split <;> omega
  · unfold getH; split <;> omega
set_option maxRecDepth 100000 in
set_option maxHeartbeats 8000000 in
theorem cacheLimits_walk (n0 m0 : Nat) (w : World) (hn : n0 < 256) (hm : m0 < 256) : Calls Try.prog 11 #[.int .u8 n0, .int .u8 m0] w fun e w' => e = .returned (.bool true) ∧ Below w.heap.size w w' := by
  have HAW := Lib.hid (fun W => awakeC_any W)
  obtain ⟨n, hnn⟩ : ∃ n, n0 % 15 = n := ⟨_, rfl⟩
  obtain ⟨m, hmm⟩ : ∃ m, m0 % 10 = m := ⟨_, rfl⟩
  have hr1 : ((n0 : Int).tmod 15) = (n : Int) := by rw [Int.tmod_eq_emod_of_nonneg (Int.natCast_nonneg _)]; omega
  have hr2 : ((m0 : Int).tmod 10) = (m : Int) := by rw [Int.tmod_eq_emod_of_nonneg (Int.natCast_nonneg _)]; omega
  have hn15 : n < 15 := by omega
  have hm10 : m < 10 := by omega
  have HNEW := Lib.hid (show ∀ W, Calls Try.prog 36 #[.int .i64 (m : Int)] W fun e w' => e = .returned (.pointer (some ⟨W.heap.size, 0, none⟩)) ∧ w' = W.alloc (.cells #[.int .i64 (m : Int), .slice none 0 0, .int .i64 0] 146) from fun W => by
    have := newCache_any (m : Int) W
    rw [show max 0 (m : Int) = (m : Int) by omega] at this
    exact this)
  have HNEG := Lib.hid (show ∀ W, Calls Try.prog 36 #[.int .i64 (-(m : Int))] W fun e w' => e = .returned (.pointer (some ⟨W.heap.size, 0, none⟩)) ∧ w' = W.alloc (.cells #[.int .i64 0, .slice none 0 0, .int .i64 0] 146) from fun W => by
    have := newCache_any (-(m : Int)) W
    rw [show max 0 (-(m : Int)) = 0 by omega] at this
    exact this)
  clear hn hm hnn hmm
  go_enter Try.func11, Try.ntmps11
  go_wp2_with fail
  refine (HAW.out _).mono ?_
  rintro e w0 ⟨rfl, hb1⟩
  have HB0 := Lib.hid hb1
  clear hb1 HAW
  go_wp2_with fail
  refine (HNEW.out _).mono ?_
  rintro e w1 ⟨rfl, hw1⟩
  obtain ⟨CB, HCB⟩ : ∃ CB, Hid (CB = w0.heap.size) := ⟨_, Lib.hid rfl⟩
  have HI1 := Lib.hid (show ∃ M cv raw, CState S1 w1 CB (m : Int) 0 (entsL m 0) M cv raw ∧ M ≤ w1.heap.size from ⟨CB + 1, .slice none 0 0, [], by rw [hw1, HCB.out, entsL_zero]; exact CState.start _ _ _, by rw [hw1, World.size_alloc, HCB.out]; exact Nat.le_refl _⟩)
  have HB1 := Lib.hid (show Below CB w0 w1 by rw [hw1, HCB.out]; exact (Below.refl _ _).alloc (Nat.le_refl _) _)
  rw [← HCB.out]
  clear hw1
  go_wp2_with fail
  go_loopw [23] (fun i wr => ∃ j : Nat, j ≤ n ∧ i = .int .i64 j ∧ Hid (Below CB w0 wr) ∧ Hid (∃ M cv raw, CState S1 wr CB (m : Int) 0 (entsL m j) M cv raw ∧ M ≤ wr.heap.size)) (fun i _ => n - (intOf i).toNat)
  case atStart => exact ⟨0, Nat.zero_le _, rfl, HB1, HI1⟩
  case round =>
    obtain ⟨j, hj, rfl, HB, HI⟩ := hrel
    obtain ⟨M, cv, raw, hC, hM⟩ := HI.out
    have HC := Lib.hid hC
    have HMr := Lib.hid hM
    clear hC hM HI
    by_cases hlt : j < n
    · obtain ⟨b, hb⟩ : ∃ b : Nat, b = 2 ^ j := ⟨_, rfl⟩
      have HBE := Lib.hid hb
      have hsh : IntKind.u16.wrap ((2 : Int) ^ j) = (b : Int) := by
        have e : ((2 : Int) ^ j) = ((2 ^ j : Nat) : Int) := by simp
        have hbl : 2 ^ j < 65536 := two_lt (by omega)
        rw [e, hb]
        simp only [IntKind.wrap, show IntKind.u16.bits = 16 from rfl, show IntKind.u16.signed = false from rfl, Bool.false_and, Bool.false_eq_true, if_false]
        omega
      obtain ⟨r2, hr⟩ : ∃ r2, j % 2 = r2 := ⟨_, rfl⟩
      have h2m : ((j : Int).tmod 2) = (r2 : Int) := by rw [Int.tmod_eq_emod_of_nonneg (Int.natCast_nonneg _)]; omega
      have HPUT := Lib.hid (fun (sa ka : Option Addr) (sc kc : Nat) (W : World) => put_limits CB m j M cv raw b sa ka sc kc W hb (by omega))
      rw [hr] at HPUT
      have HSC := Lib.hid (fun W => set_row b W)
      have HSK := Lib.hid (fun W => keys_any b false W)
      have HQV := Lib.hid (show ((r2 : Int) == 0) = decide (r2 = 0) by rw [Bool.eq_iff_iff]; simp)
      have hq := HQV.out
      generalize decide (r2 = 0) = qv at HPUT hq
      clear hb hr HQV
      have hlt' := hlt
      go_upto_region 8 with (fail)
      go_cut [37] (fun t wx => t = .bool false ∧ Hid (∃ cv' raw', CState S1 wx CB (m : Int) 0 (entsL m (j + 1)) wx.heap.size cv' raw') ∧ Hid (Below CB wr wx))
      case first =>
        have HL := Lib.hid (more_drew wr)
        go_region_held3 (fun _ => True) (trivial) (first | (go_at_call 38; refine (HSC.out _).mono ?_; rintro e w7 ⟨⟨v7, rfl, hr7⟩, hb7⟩; obtain ⟨sa, sc, rfl, _⟩ := hr7.shape; have HRS := Lib.hid (hr7.mono (S' := fun x => M ≤ x ∧ S1 x) (fun x hx => ⟨Nat.le_trans HMr.out (Nat.le_trans HL.out.size hx), trivial⟩) (fun _ _ _ _ h => h)); (try have HRK := Lib.hid (HRK.out.below hb7)); have HL := Lib.hid (more_trans HL.out (more_of hb7)); clear hr7 hb7) | (go_at_call 40; refine (HSK.out _).mono ?_; rintro e w7 ⟨⟨v7, rfl, ho7⟩, hb7⟩; obtain ⟨ka, kc, rfl, _⟩ := owns_shape ho7; have HRK := Lib.hid (show Row anyB w7 4 ((pick (ord16 false) b).map keyI).length (.slice ka (pick (ord16 false) b).length kc) (flatC kC ((pick (ord16 false) b).map keyI)) by rw [List.length_map]; exact (Row.of_owns ho7).mono (fun _ _ => trivial) (fun _ _ _ _ h => h)); (try have HRS := Lib.hid (HRS.out.below hb7)); have HL := Lib.hid (more_trans HL.out (more_of hb7)); clear ho7 hb7) | (go_at_call 37; refine (HPUT.out _ _ _ _ _ (HC.out.below HL.out.below) (Nat.le_trans HMr.out HL.out.size) HRS.out HRK.out).mono ?_; rintro e w7 ⟨rfl, hs7, hb7⟩; have HS7 := Lib.hid hs7; have HB7 := Lib.hid (show Below CB wr w7 from (HL.out.below.mono (Nat.le_of_lt (blk_lt HC.out.blk))).trans hb7); clear hs7 hb7))
        all_goals (go_wp2_with fail; go_meet; exact ⟨rfl, HS7, HB7⟩)
      case rest =>
        obtain ⟨rfl, HS7, HB7⟩ := hcut
        have HB8 := Lib.hid (HB.out.trans HB7.out)
        have HI8 := Lib.hid (show ∃ M cv raw, CState S1 wc CB (m : Int) 0 (entsL m (j + 1)) M cv raw ∧ M ≤ wc.heap.size from by obtain ⟨cv', raw', h⟩ := HS7.out; exact ⟨_, cv', raw', h, Nat.le_refl _⟩)
        go_wp2_with fail
        go_roundw
        case rel => exact ⟨j + 1, by omega, by go_num, HB8, HI8⟩
        case measure => simp [intOf]; omega
    · obtain rfl : j = n := by omega
      clear hlt hj
      obtain ⟨w2, rfl⟩ : ∃ w2 : World, w2 = wr := ⟨_, rfl⟩
      have HLN := Lib.hid (show Calls Try.prog 44 #[.pointer (some ⟨CB, 0, none⟩)] w2 fun e w' => e = .returned (.int .i64 (min (j : Int) (m : Int))) ∧ w' = w2 from by
        obtain ⟨ea, ec, hcv⟩ := HC.out.shape
        have hbk := HC.out.blk
        rw [hcv] at hbk
        have := len_any CB ea (entsL m j).length ec _ _ w2 hbk
        rw [show (((entsL m j).length : Nat) : Int) = min (j : Int) (m : Int) by rw [entsL_len]; omega] at this
        exact this)
      go_wp2_with fail
      refine HLN.out.mono ?_
      rintro e wl ⟨rfl, hw⟩
      subst wl
      go_wp2_with fail
      refine (HNEG.out _).mono ?_
      rintro e w3 ⟨rfl, hw3⟩
      have HN3 := Lib.hid (show w3.heap[w2.heap.size]? = some (.cells #[.int .i64 0, .slice none 0 0, .int .i64 0] 146) by rw [hw3]; exact alloc_last _ _)
      have HC3 := Lib.hid (show CState S1 w3 CB (m : Int) 0 (entsL m j) M cv raw by rw [hw3]; exact HC.out.below ((Below.refl _ _).alloc (Nat.le_refl _) _))
      have HB3 := Lib.hid (show Below CB w0 w3 by rw [hw3]; exact HB.out.alloc (Nat.le_of_lt (blk_lt HC.out.blk)) _)
      clear hw3
      go_wp2_with fail
      refine (len_any w2.heap.size none 0 0 _ _ w3 HN3.out).mono ?_
      rintro e wl ⟨rfl, hw⟩
      subst wl
      go_wp2_with fail
      go_loopw [53] (fun i wr => ∃ (k : Nat) (hits : Int), k ≤ j ∧ i = .int .i64 k ∧ 0 ≤ hits ∧ hits ≤ k ∧ Hid (Below CB w0 wr) ∧ Hid (CState S1 wr CB (m : Int) hits (entsL m j) M cv raw)) (fun i _ => j - (intOf i).toNat)
      case atStart => exact ⟨0, 0, Nat.zero_le _, rfl, by omega, by omega, HB3, HC3⟩
      case round =>
        obtain ⟨k, hits, hk, rfl, hh0, hh1, HB4, HC4⟩ := hrel
        by_cases hlt : k < j
        · obtain ⟨b, hb⟩ : ∃ b : Nat, b = 2 ^ k := ⟨_, rfl⟩
          have hsh : IntKind.u16.wrap ((2 : Int) ^ k) = (b : Int) := by
            have e : ((2 : Int) ^ k) = ((2 ^ k : Nat) : Int) := by simp
            have hbl : 2 ^ k < 65536 := two_lt (by omega)
            rw [e, hb]
            simp only [IntKind.wrap, show IntKind.u16.bits = 16 from rfl, show IntKind.u16.signed = false from rfl, Bool.false_and, Bool.false_eq_true, if_false]
            omega
          obtain ⟨r2, hr⟩ : ∃ r2, k % 2 = r2 := ⟨_, rfl⟩
          have h2m : ((k : Int).tmod 2) = (r2 : Int) := by rw [Int.tmod_eq_emod_of_nonneg (Int.natCast_nonneg _)]; omega
          have HGET := Lib.hid (fun (sa : Option Addr) (sc : Nat) (W : World) => get_limits_any CB j m k M hits cv raw b sa sc W hb (by omega) hlt (by omega))
          rw [hr] at HGET
          have HSC := Lib.hid (fun W => set_row b W)
          have hq : ((r2 : Int) == 0) = decide (r2 = 0) := by rw [Bool.eq_iff_iff]; simp
          have hz : decide ((j : Int) - (m : Int) ≤ (k : Int)) = decide (j - m ≤ k) := by rw [Bool.eq_iff_iff]; simp; omega
          generalize decide (r2 = 0) = qv at HGET hq
          generalize decide (j - m ≤ k) = qk at HGET hz
          clear hb hr
          have hlt' := hlt
          go_wp2_with fail
          refine (HSC.out _).mono ?_
          rintro e w5 ⟨⟨v5, rfl, hr5⟩, hb5⟩
          obtain ⟨sa, sc, rfl, _⟩ := hr5.shape
          have HC5 := Lib.hid (HC4.out.below hb5)
          have HB5 := Lib.hid (HB4.out.trans (hb5.mono (Nat.le_of_lt (blk_lt HC4.out.blk))))
          have HG5 := Lib.hid (HGET.out sa sc w5 HC5.out (hr5.mono (fun _ _ => trivial) (fun _ _ _ _ h => h)))
          clear hr5 hb5
          generalize (setCh b).length = nb at HG5 ⊢
          go_wp2_with fail
          refine HG5.out.mono ?_
          rintro e w6 ⟨rfl, ⟨hits', hh2, hh3, hc6⟩, hb6⟩
          have HC6 := Lib.hid hc6
          have HB6 := Lib.hid (HB5.out.trans hb6)
          clear hc6 hb6 HG5 HGET
          cases qk <;> cases qv
          all_goals
            go_wp2_with fail
            go_roundw
            case rel => exact ⟨k + 1, hits', by omega, by go_num, by omega, by omega, HB6, HC6⟩
            case measure => simp [intOf]; omega
        · have HBZ := Lib.hid (show Below w.heap.size w wr from (more_trans (more_of HB0.out) (show More w0 wr from by have := HB4.out; rw [HCB.out] at this; exact more_of this)).below)
          go_wp2_with fail
          go_ret
          exact ⟨rfl, HBZ.out⟩
end Go.Proofs.Ytemeppfikpafbaa
