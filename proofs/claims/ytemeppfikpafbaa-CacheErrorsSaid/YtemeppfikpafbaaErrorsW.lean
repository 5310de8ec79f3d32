/- The walk of CacheErrors (14). -/
import Derived.Test.YtemeppfikpafbaaPut2B
import Derived.Test.YtemeppfikpafbaaAwkC2
import Derived.Test.YtemeppfikpafbaaAppliesW
namespace Go.Proofs.Ytemeppfikpafbaa
open Go.RowKit
theorem putNil_any (sv hv kv : Value) (vd : Bool) (w : World) : Calls Try.prog 37 #[.pointer none, .agg #[sv], hv, kv, .bool vd] w fun e w' => e = .returned (.int .i64 1) ∧ More w w' := by
  go_enter Try.func37, Try.ntmps37
  go_wp2_with fail
  go_ret
  exact ⟨rfl, more_alloc _ _⟩
theorem getNil_any (sv hv : Value) (w : World) : Calls Try.prog 42 #[.pointer none, .agg #[sv], hv] w fun e w' => e = .returned (.tuple #[.bool false, .bool false]) ∧ More w w' := by
  go_enter Try.func42, Try.ntmps42
  go_wp2_with fail
  go_ret2
  exact ⟨rfl, more_alloc _ _⟩
theorem or_one {h : Nat} (hh : h < 65536) : bits .or .u16 (h : Int) 1 = ((h ||| 1 : Nat) : Int) := or_bits (y := 1) hh (by decide)
set_option maxRecDepth 100000 in
set_option maxHeartbeats 8000000 in
theorem cacheErrors_walk (c u h : Nat) (w : World) (hc : c < 65536) (hu : u < 65536) (hh : h < 65536) : Calls Try.prog 14 #[.int .u16 c, .int .u16 u, .int .u16 h] w fun e w' => e = .returned (.bool true) ∧ Below w.heap.size w w' := by
  have HAW := Lib.hid (fun W => awakeC_any W)
  have HNEW := Lib.hid (show ∀ W, Calls Try.prog 36 #[.int .i64 4] W fun e w' => e = .returned (.pointer (some ⟨W.heap.size, 0, none⟩)) ∧ w' = W.alloc (.cells #[.int .i64 4, .slice none 0 0, .int .i64 0] 146) from fun W => newCache_any 4 W)
  have HSC := Lib.hid (fun W => set_row c W)
  have HMH := Lib.hid (fun W => messages_any h false W)
  have HMT := Lib.hid (fun W => messages_any (h ||| 1) false W)
  have HKU := Lib.hid (fun W => keys_any u false W)
  have hb0 := and_bits hu hc
  have hb1 := or_one hh
  obtain ⟨q, HQ⟩ : ∃ q, Hid (decide (u &&& c = u) = q) := ⟨_, Lib.hid rfl⟩
  have HPO := Lib.hid (putok_bits (c := c) (h := h) hu false false)
  have HPT := Lib.hid (not_twice (c := c) (h := h) false ((pick (ord16 false) 0).map keyI))
  have t1 : ((((u &&& c : Nat) : Int)) == (u : Int)) = q := by rw [← HQ.out, Bool.eq_iff_iff]; simp; omega
  have t2 : ((u : Int) == (((u &&& c : Nat) : Int))) = q := by rw [← HQ.out, Bool.eq_iff_iff]; simp; omega
  obtain ⟨i0, hi0, hz0, hz1, hz2⟩ := info_parts info54
  generalize hA : ((u &&& c : Nat) : Int) = A at hb0 t1 t2
  generalize hB : ((h ||| 1 : Nat) : Int) = B at hb1
  have HMT2 := Lib.hid (show ∀ W, Calls Try.prog 39 #[.int .u16 B, .bool false] W fun e w' => (∃ v, e = .returned v ∧ w'.ownsRow W.heap.size 54 3 v (pick (ord16 false) (h ||| 1)).length (flatC mC ((pick (ord16 false) (h ||| 1)).map msgI))) ∧ Below W.heap.size W w' by rw [← hB]; exact HMT.out)
  have HPL := Lib.hid (pick_len (ord16_len false) (h ||| 1))
  clear hA hB hc hu hh HMT
  go_enter Try.func14, Try.ntmps14
  go_wp2_with fail
  refine (HAW.out _).mono ?_
  rintro e w0 ⟨rfl, hb1⟩
  have HB0 := Lib.hid hb1
  clear hb1 HAW
  go_wp2_with fail
  refine (HNEW.out _).mono ?_
  rintro e w1 ⟨rfl, hw1⟩
  obtain ⟨CB, HCB⟩ : ∃ CB, Hid (CB = w0.heap.size) := ⟨_, Lib.hid rfl⟩
  have HC1 := Lib.hid (show CState S1 w1 CB 4 0 [] (CB + 1) (.slice none 0 0) [] by rw [hw1, HCB.out]; exact CState.start _ _ _)
  have HB1 := Lib.hid (show Below CB w0 w1 by rw [hw1, HCB.out]; exact (Below.refl _ _).alloc (Nat.le_refl _) _)
  have HZ1 := Lib.hid (show CB + 1 ≤ w1.heap.size by rw [hw1, World.size_alloc, HCB.out]; exact Nat.le_refl _)
  rw [← HCB.out]
  clear hw1
  cases q
  case false =>
    go_wp2_with fail
    refine (HSC.out _).mono ?_
    rintro e w2 ⟨⟨v2, rfl, hr2⟩, hb2⟩
    obtain ⟨sa, sc, rfl, _⟩ := hr2.shape
    have HC2 := Lib.hid (HC1.out.below hb2)
    have HB2 := Lib.hid (HB1.out.trans (hb2.mono (Nat.le_of_lt (blk_lt HC1.out.blk))))
    have HZ2 := Lib.hid (Nat.le_trans HZ1.out hb2.size)
    have HRs_2 := Lib.hid (show Row (fun x => CB + 1 ≤ x ∧ S1 x) w2 7 (setCh c).length (.slice sa (setCh c).length sc) (flatC chC (setCh c)) from hr2.mono (fun x hx => ⟨Nat.le_trans HZ1.out hx, trivial⟩) (fun _ _ _ _ h => h))
    clear hr2 hb2
    go_wp2_with fail
    refine (HMH.out _).mono ?_
    rintro e w3 ⟨⟨v3, rfl, ho3⟩, hb3⟩
    have HNm := Lib.hid (owns_nil ho3)
    obtain ⟨ma, mc, rfl, _⟩ := owns_shape ho3
    have HC3 := Lib.hid (HC2.out.below hb3)
    have HB3 := Lib.hid (HB2.out.trans (hb3.mono (Nat.le_of_lt (blk_lt HC2.out.blk))))
    have HZ3 := Lib.hid (Nat.le_trans HZ2.out hb3.size)
    have HRs_3 := Lib.hid (HRs_2.out.below hb3)
    clear HRs_2
    have HRm_3 := Lib.hid (show Row anyB w3 3 ((pick (ord16 false) h).map msgI).length (.slice ma (pick (ord16 false) h).length mc) (flatC mC ((pick (ord16 false) h).map msgI)) by rw [List.length_map]; exact (Row.of_owns ho3).mono (fun _ _ => trivial) (fun _ _ _ _ h => h))
    clear ho3 hb3
    go_wp2_with fail
    refine (HKU.out _).mono ?_
    rintro e w4 ⟨⟨v4, rfl, ho4⟩, hb4⟩
    have HNk := Lib.hid (owns_nil ho4)
    obtain ⟨ka, kc, rfl, _⟩ := owns_shape ho4
    have HC4 := Lib.hid (HC3.out.below hb4)
    have HB4 := Lib.hid (HB3.out.trans (hb4.mono (Nat.le_of_lt (blk_lt HC3.out.blk))))
    have HZ4 := Lib.hid (Nat.le_trans HZ3.out hb4.size)
    have HRs_4 := Lib.hid (HRs_3.out.below hb4)
    clear HRs_3
    have HRm_4 := Lib.hid (HRm_3.out.below hb4)
    clear HRm_3
    have HRk_4 := Lib.hid (show Row anyB w4 4 ((pick (ord16 false) u).map keyI).length (.slice ka (pick (ord16 false) u).length kc) (flatC kC ((pick (ord16 false) u).map keyI)) by rw [List.length_map]; exact (Row.of_owns ho4).mono (fun _ _ => trivial) (fun _ _ _ _ h => h))
    clear ho4 hb4
    have HPUT := Lib.hid (put2_bits S1 CB 4 0 [] (CB + 1) _ _ c h u false false (.slice sa (setCh c).length sc) (.slice ma (pick (ord16 false) h).length mc) (.slice ka (pick (ord16 false) u).length kc) true w4 HC4.out HZ4.out (fun _ _ => trivial) HRs_4.out HRm_4.out HNm.out HRk_4.out (by decide) (by decide))
    generalize (setCh c).length = ns at HPUT ⊢
    generalize (pick (ord16 false) h).length = nm at HPUT ⊢
    generalize (pick (ord16 false) u).length = nk at HPUT ⊢
    have HPQ := Lib.hid (HPO.out.trans (decide_eq_true_iff (p := u &&& c = u)).symm)
    rw [HQ.out] at HPQ
    go_wp2_with fail
    refine HPUT.out.mono ?_
    rintro e w5 hr5
    have HB5 := Lib.hid (HB4.out.trans hr5.below)
    obtain ⟨rfl, hc5⟩ := hr5.no (fun h => by have := HPQ.out.1 h; cases this)
    obtain ⟨E, hE⟩ : ∃ E, E = ([] : List Ent) := ⟨_, rfl⟩
    have HEL := Lib.hid (show E.length = 0 by rw [hE]; rfl)
    rw [← hE] at hc5
    obtain ⟨MM, HMM⟩ : ∃ MM, Hid (MM = CB + 1) := ⟨_, Lib.hid rfl⟩
    rw [← HMM.out] at hc5
    have HZ5 := Lib.hid (show MM ≤ w5.heap.size by rw [HMM.out]; exact Nat.le_trans HZ4.out hr5.below.size)
    have HC5 := Lib.hid hc5
    clear hE hc5 hr5 HPUT
    have HLNa := Lib.hid (show Calls Try.prog 44 #[.pointer (some ⟨CB, 0, none⟩)] w5 fun e w' => e = .returned (.int .i64 0) ∧ w' = w5 from by
      obtain ⟨ea, ec, hcv⟩ := HC5.out.shape
      have hbk := HC5.out.blk
      rw [hcv] at hbk
      have := len_any CB ea E.length ec _ _ w5 hbk
      rw [HEL.out] at this
      exact this)
    go_wp2_with fail
    refine HLNa.out.mono ?_
    rintro e wl ⟨rfl, hw⟩
    subst wl
    have HLNb := Lib.hid (show Calls Try.prog 44 #[.pointer (some ⟨CB, 0, none⟩)] w5 fun e w' => e = .returned (.int .i64 0) ∧ w' = w5 from by
      obtain ⟨ea, ec, hcv⟩ := HC5.out.shape
      have hbk := HC5.out.blk
      rw [hcv] at hbk
      have := len_any CB ea E.length ec _ _ w5 hbk
      rw [HEL.out] at this
      exact this)
    go_wp2_with fail
    refine HLNb.out.mono ?_
    rintro e wl ⟨rfl, hw⟩
    subst wl
    go_wp2_with fail
    refine (HMT2.out _).mono ?_
    rintro e w6 ⟨⟨v6, rfl, ho6⟩, hb6⟩
    obtain ⟨ta, tc, rfl, HTZ⟩ := owns_shape ho6
    have HC6 := Lib.hid (HC5.out.below hb6)
    have HB6 := Lib.hid (HB5.out.trans (hb6.mono (Nat.le_of_lt (blk_lt HC5.out.blk))))
    have HZ6 := Lib.hid (Nat.le_trans HZ5.out hb6.size)
    have HO6 := Lib.hid ho6
    have HPLb := HPL.out
    have HT0 := Lib.hid (fun z hz => (HTZ z hz))
    obtain ⟨L, HL⟩ : ∃ L, Hid (L = (pick (ord16 false) (h ||| 1)).map msgI) := ⟨_, Lib.hid rfl⟩
    obtain ⟨nt, hnt⟩ : ∃ nt, nt = (pick (ord16 false) (h ||| 1)).length := ⟨_, rfl⟩
    have HLL := Lib.hid (show L.length = nt by rw [HL.out, hnt, List.length_map])
    rw [← HL.out, ← hnt] at HO6
    rw [← hnt] at HT0 HPLb ⊢
    rw [← HL.out] at HPT
    have hm1 : nt + 1 ≤ maxLen := by unfold maxLen; omega
    have hm2 : (nt + 1) * 24 ≤ 140737488355328 := by omega
    have HBM6 := Lib.hid hb6
    have hbs6 := hb6.size
    clear ho6 hb6 HTZ hnt HL
    have HY6 := Lib.hid (show w5.heap.size ≤ w6.heap.size from hbs6)
    clear hbs6
    go_wp2_with (at_builtin; refine wpList_append_own _ rfl _ _ 28 rfl w5.heap.size 54 i0 _ 3 24 Try.underlying28 hi0 hz0 hz1 hz2 rfl (by omega) (.slice ta nt tc) nt (flatC mC L) rfl (owns_keep HO6.out (fun z hz => Below.heap_alloc w6 _ _ (HT0.out z hz).2)) ⟨w6.heap.size, 0, none⟩ 1 1 [.int .i64 0, .int .i64 0, .int .i64 7] rfl rfl (World.news_of_block (cs := #[.int .i64 0, .int .i64 0, .int .i64 7]) (t := 54) (fr := (0, 0)) (alloc_last _ _)) (by simp [Value.oneCell']) hm1 hm2 (by rw [World.size_alloc]; exact Nat.le_succ_of_le HY6.out) ?_; intro v7 w7 hown7 hgrow7 _; obtain ⟨ta7, tc7, rfl, _⟩ := owns_shape hown7; have hBT : Below w5.heap.size w5 w7 := (HBM6.out.alloc HY6.out (.cells #[.int .i64 0, .int .i64 0, .int .i64 7] 54)).grown hgrow7 (by rw [World.size_alloc]; exact Nat.le_succ_of_le HY6.out) (fun z hz => (HT0.out z hz).1); have HBT := Lib.hid hBT; have HOT := Lib.hid hown7; clear hBT hown7 hgrow7)
    have HC7 := Lib.hid (HC5.out.below HBT.out)
    have HB7 := Lib.hid (HB5.out.trans (HBT.out.mono (Nat.le_of_lt (blk_lt HC5.out.blk))))
    have HZ7 := Lib.hid (Nat.le_trans HZ5.out HBT.out.size)
    have HNt := Lib.hid (owns_nil HOT.out)
    have HRt_7 := Lib.hid (show Row anyB w7 3 (L ++ [(⟨0, 0, 7⟩ : M3)]).length (.slice ta7 (nt + 1) tc7) (flatC mC (L ++ [(⟨0, 0, 7⟩ : M3)])) by rw [List.length_append, List.length_singleton, HLL.out, flatC_push]; exact (Row.of_owns HOT.out).mono (fun _ _ => trivial) (fun _ _ _ _ h => h))
    clear HC6 HB6 HZ6 HO6 HBM6
    go_wp2_with fail
    refine (HSC.out _).mono ?_
    rintro e w8 ⟨⟨v8, rfl, hr8⟩, hb8⟩
    obtain ⟨xa, xc, rfl, _⟩ := hr8.shape
    have HC8 := Lib.hid (HC7.out.below hb8)
    have HB8 := Lib.hid (HB7.out.trans (hb8.mono (Nat.le_of_lt (blk_lt HC7.out.blk))))
    have HZ8 := Lib.hid (Nat.le_trans HZ7.out hb8.size)
    have HRt_8 := Lib.hid (HRt_7.out.below hb8)
    clear HRt_7
    have HRx_8 := Lib.hid (show Row (fun x => MM ≤ x ∧ S1 x) w8 7 (setCh c).length (.slice xa (setCh c).length xc) (flatC chC (setCh c)) from hr8.mono (fun x hx => ⟨Nat.le_trans HZ7.out hx, trivial⟩) (fun _ _ _ _ h => h))
    clear hr8 hb8
    go_wp2_with fail
    refine (getNil_any _ _ _).mono ?_
    rintro e w9 ⟨rfl, hm9⟩
    have hb9 := hm9.below
    have HC9 := Lib.hid (HC8.out.below hb9)
    have HB9 := Lib.hid (HB8.out.trans (hb9.mono (Nat.le_of_lt (blk_lt HC8.out.blk))))
    have HZ9 := Lib.hid (Nat.le_trans HZ8.out hb9.size)
    have HRt_9 := Lib.hid (HRt_8.out.below hb9)
    clear HRt_8
    go_wp2_with fail
    refine (HSC.out _).mono ?_
    rintro e w10 ⟨⟨v10, rfl, hr10⟩, hb10⟩
    obtain ⟨ya, yc, rfl, _⟩ := hr10.shape
    have HC10 := Lib.hid (HC9.out.below hb10)
    have HB10 := Lib.hid (HB9.out.trans (hb10.mono (Nat.le_of_lt (blk_lt HC9.out.blk))))
    have HZ10 := Lib.hid (Nat.le_trans HZ9.out hb10.size)
    have HRt_10 := Lib.hid (HRt_9.out.below hb10)
    clear HRt_9
    have HRy_10 := Lib.hid (show Row (fun x => MM ≤ x ∧ S1 x) w10 7 (setCh c).length (.slice ya (setCh c).length yc) (flatC chC (setCh c)) from hr10.mono (fun x hx => ⟨Nat.le_trans HZ9.out hx, trivial⟩) (fun _ _ _ _ h => h))
    clear hr10 hb10
    have HPU2 := Lib.hid (put2_any S1 CB 4 0 E MM _ _ (setCh c) (L ++ [(⟨0, 0, 7⟩ : M3)]) ((pick (ord16 false) 0).map keyI) (.slice ya (setCh c).length yc) (.slice ta7 (nt + 1) tc7) (.slice none 0 0) true w10 HC10.out HZ10.out (fun _ _ => trivial) (setCh_asc c) HRy_10.out (by have := setCh_len c; omega) HRt_10.out HNt.out (by rw [List.length_append, List.length_singleton, HLL.out]; omega) (row_none4 false w10) (by rw [List.length_map]; have := pick_len (ord16_len false) 0; omega) (by rw [HEL.out]; decide) (by rw [HEL.out]; decide))
    generalize (setCh c).length = ny at HPU2 ⊢
    go_wp2_with fail
    refine HPU2.out.mono ?_
    rintro e w11 hr11
    have HB11 := Lib.hid (HB10.out.trans hr11.below)
    obtain ⟨rfl, hc11⟩ := hr11.no HPT.out
    have HC11 := Lib.hid hc11
    have HZ11 := Lib.hid (Nat.le_trans HZ10.out hr11.below.size)
    clear hc11 hr11 HPU2
    have HLNc := Lib.hid (show Calls Try.prog 44 #[.pointer (some ⟨CB, 0, none⟩)] w11 fun e w' => e = .returned (.int .i64 0) ∧ w' = w11 from by
      obtain ⟨ea, ec, hcv⟩ := HC11.out.shape
      have hbk := HC11.out.blk
      rw [hcv] at hbk
      have := len_any CB ea E.length ec _ _ w11 hbk
      rw [HEL.out] at this
      exact this)
    go_wp2_with fail
    refine HLNc.out.mono ?_
    rintro e wl ⟨rfl, hw⟩
    subst wl
    go_wp2_with fail
    refine (HSC.out _).mono ?_
    rintro e w12 ⟨⟨v12, rfl, hr12⟩, hb12⟩
    obtain ⟨za, zc, rfl, _⟩ := hr12.shape
    have HC12 := Lib.hid (HC11.out.below hb12)
    have HB12 := Lib.hid (HB11.out.trans (hb12.mono (Nat.le_of_lt (blk_lt HC11.out.blk))))
    have HZ12 := Lib.hid (Nat.le_trans HZ11.out hb12.size)
    have HRz_12 := Lib.hid (show Row (fun x => MM ≤ x ∧ S1 x) w12 7 (setCh c).length (.slice za (setCh c).length zc) (flatC chC (setCh c)) from hr12.mono (fun x hx => ⟨Nat.le_trans HZ11.out hx, trivial⟩) (fun _ _ _ _ h => h))
    clear hr12 hb12
    go_wp2_with fail
    refine (putNil_any _ _ _ _ _).mono ?_
    rintro e w13 ⟨rfl, hm13⟩
    have hb13 := hm13.below
    have HC13 := Lib.hid (HC12.out.below hb13)
    have HB13 := Lib.hid (HB12.out.trans (hb13.mono (Nat.le_of_lt (blk_lt HC12.out.blk))))
    have HZ13 := Lib.hid (Nat.le_trans HZ12.out hb13.size)
    clear hm13 hb13
    go_wp2_with fail
    refine (lenNil_any _).mono ?_
    rintro e wl ⟨rfl, hw⟩
    subst wl
    go_wp2_with fail
    refine (hitsNil_any _).mono ?_
    rintro e wl ⟨rfl, hw⟩
    subst wl
    have HBZ := Lib.hid (show Below w.heap.size w w13 from (more_trans (more_of HB0.out) (show More w0 w13 from by have := HB13.out; rw [HCB.out] at this; exact more_of this)).below)
    go_wp2_with fail
    go_ret
    exact ⟨rfl, HBZ.out⟩
  case true =>
    go_wp2_with fail
    refine (HSC.out _).mono ?_
    rintro e w2 ⟨⟨v2, rfl, hr2⟩, hb2⟩
    obtain ⟨sa, sc, rfl, _⟩ := hr2.shape
    have HC2 := Lib.hid (HC1.out.below hb2)
    have HB2 := Lib.hid (HB1.out.trans (hb2.mono (Nat.le_of_lt (blk_lt HC1.out.blk))))
    have HZ2 := Lib.hid (Nat.le_trans HZ1.out hb2.size)
    have HRs_2 := Lib.hid (show Row (fun x => CB + 1 ≤ x ∧ S1 x) w2 7 (setCh c).length (.slice sa (setCh c).length sc) (flatC chC (setCh c)) from hr2.mono (fun x hx => ⟨Nat.le_trans HZ1.out hx, trivial⟩) (fun _ _ _ _ h => h))
    clear hr2 hb2
    go_wp2_with fail
    refine (HMH.out _).mono ?_
    rintro e w3 ⟨⟨v3, rfl, ho3⟩, hb3⟩
    have HNm := Lib.hid (owns_nil ho3)
    obtain ⟨ma, mc, rfl, _⟩ := owns_shape ho3
    have HC3 := Lib.hid (HC2.out.below hb3)
    have HB3 := Lib.hid (HB2.out.trans (hb3.mono (Nat.le_of_lt (blk_lt HC2.out.blk))))
    have HZ3 := Lib.hid (Nat.le_trans HZ2.out hb3.size)
    have HRs_3 := Lib.hid (HRs_2.out.below hb3)
    clear HRs_2
    have HRm_3 := Lib.hid (show Row anyB w3 3 ((pick (ord16 false) h).map msgI).length (.slice ma (pick (ord16 false) h).length mc) (flatC mC ((pick (ord16 false) h).map msgI)) by rw [List.length_map]; exact (Row.of_owns ho3).mono (fun _ _ => trivial) (fun _ _ _ _ h => h))
    clear ho3 hb3
    go_wp2_with fail
    refine (HKU.out _).mono ?_
    rintro e w4 ⟨⟨v4, rfl, ho4⟩, hb4⟩
    have HNk := Lib.hid (owns_nil ho4)
    obtain ⟨ka, kc, rfl, _⟩ := owns_shape ho4
    have HC4 := Lib.hid (HC3.out.below hb4)
    have HB4 := Lib.hid (HB3.out.trans (hb4.mono (Nat.le_of_lt (blk_lt HC3.out.blk))))
    have HZ4 := Lib.hid (Nat.le_trans HZ3.out hb4.size)
    have HRs_4 := Lib.hid (HRs_3.out.below hb4)
    clear HRs_3
    have HRm_4 := Lib.hid (HRm_3.out.below hb4)
    clear HRm_3
    have HRk_4 := Lib.hid (show Row anyB w4 4 ((pick (ord16 false) u).map keyI).length (.slice ka (pick (ord16 false) u).length kc) (flatC kC ((pick (ord16 false) u).map keyI)) by rw [List.length_map]; exact (Row.of_owns ho4).mono (fun _ _ => trivial) (fun _ _ _ _ h => h))
    clear ho4 hb4
    have HPUT := Lib.hid (put2_bits S1 CB 4 0 [] (CB + 1) _ _ c h u false false (.slice sa (setCh c).length sc) (.slice ma (pick (ord16 false) h).length mc) (.slice ka (pick (ord16 false) u).length kc) true w4 HC4.out HZ4.out (fun _ _ => trivial) HRs_4.out HRm_4.out HNm.out HRk_4.out (by decide) (by decide))
    generalize (setCh c).length = ns at HPUT ⊢
    generalize (pick (ord16 false) h).length = nm at HPUT ⊢
    generalize (pick (ord16 false) u).length = nk at HPUT ⊢
    have HPQ := Lib.hid (HPO.out.trans (decide_eq_true_iff (p := u &&& c = u)).symm)
    rw [HQ.out] at HPQ
    go_wp2_with fail
    refine HPUT.out.mono ?_
    rintro e w5 hr5
    have HB5 := Lib.hid (HB4.out.trans hr5.below)
    obtain ⟨rfl, cv, raw, hc5, _⟩ := hr5.yes (HPQ.out.2 (by trivial))
    obtain ⟨E, hE⟩ : ∃ E, E = limE (4 : Int) ([] ++ [(⟨setCh c, srtM ((pick (ord16 false) h).map msgI), usL (setCh c) ((pick (ord16 false) u).map keyI), true⟩ : Ent)]) := ⟨_, rfl⟩
    have HEL := Lib.hid (show E.length = 1 by rw [hE]; rfl)
    rw [← hE] at hc5
    obtain ⟨MM, HMM⟩ : ∃ MM, Hid (MM = w5.heap.size) := ⟨_, Lib.hid rfl⟩
    rw [← HMM.out] at hc5
    have HZ5 := Lib.hid (show MM ≤ w5.heap.size by rw [HMM.out]; exact Nat.le_refl _)
    have HC5 := Lib.hid hc5
    clear hE hc5 hr5 HPUT
    have HLNa := Lib.hid (show Calls Try.prog 44 #[.pointer (some ⟨CB, 0, none⟩)] w5 fun e w' => e = .returned (.int .i64 1) ∧ w' = w5 from by
      obtain ⟨ea, ec, hcv⟩ := HC5.out.shape
      have hbk := HC5.out.blk
      rw [hcv] at hbk
      have := len_any CB ea E.length ec _ _ w5 hbk
      rw [HEL.out] at this
      exact this)
    go_wp2_with fail
    refine HLNa.out.mono ?_
    rintro e wl ⟨rfl, hw⟩
    subst wl
    have HLNb := Lib.hid (show Calls Try.prog 44 #[.pointer (some ⟨CB, 0, none⟩)] w5 fun e w' => e = .returned (.int .i64 1) ∧ w' = w5 from by
      obtain ⟨ea, ec, hcv⟩ := HC5.out.shape
      have hbk := HC5.out.blk
      rw [hcv] at hbk
      have := len_any CB ea E.length ec _ _ w5 hbk
      rw [HEL.out] at this
      exact this)
    go_wp2_with fail
    refine HLNb.out.mono ?_
    rintro e wl ⟨rfl, hw⟩
    subst wl
    go_wp2_with fail
    refine (HMT2.out _).mono ?_
    rintro e w6 ⟨⟨v6, rfl, ho6⟩, hb6⟩
    obtain ⟨ta, tc, rfl, HTZ⟩ := owns_shape ho6
    have HC6 := Lib.hid (HC5.out.below hb6)
    have HB6 := Lib.hid (HB5.out.trans (hb6.mono (Nat.le_of_lt (blk_lt HC5.out.blk))))
    have HZ6 := Lib.hid (Nat.le_trans HZ5.out hb6.size)
    have HO6 := Lib.hid ho6
    have HPLb := HPL.out
    have HT0 := Lib.hid (fun z hz => (HTZ z hz))
    obtain ⟨L, HL⟩ : ∃ L, Hid (L = (pick (ord16 false) (h ||| 1)).map msgI) := ⟨_, Lib.hid rfl⟩
    obtain ⟨nt, hnt⟩ : ∃ nt, nt = (pick (ord16 false) (h ||| 1)).length := ⟨_, rfl⟩
    have HLL := Lib.hid (show L.length = nt by rw [HL.out, hnt, List.length_map])
    rw [← HL.out, ← hnt] at HO6
    rw [← hnt] at HT0 HPLb ⊢
    rw [← HL.out] at HPT
    have hm1 : nt + 1 ≤ maxLen := by unfold maxLen; omega
    have hm2 : (nt + 1) * 24 ≤ 140737488355328 := by omega
    have HBM6 := Lib.hid hb6
    have hbs6 := hb6.size
    clear ho6 hb6 HTZ hnt HL
    have HY6 := Lib.hid (show w5.heap.size ≤ w6.heap.size from hbs6)
    clear hbs6
    go_wp2_with (at_builtin; refine wpList_append_own _ rfl _ _ 28 rfl w5.heap.size 54 i0 _ 3 24 Try.underlying28 hi0 hz0 hz1 hz2 rfl (by omega) (.slice ta nt tc) nt (flatC mC L) rfl (owns_keep HO6.out (fun z hz => Below.heap_alloc w6 _ _ (HT0.out z hz).2)) ⟨w6.heap.size, 0, none⟩ 1 1 [.int .i64 0, .int .i64 0, .int .i64 7] rfl rfl (World.news_of_block (cs := #[.int .i64 0, .int .i64 0, .int .i64 7]) (t := 54) (fr := (0, 0)) (alloc_last _ _)) (by simp [Value.oneCell']) hm1 hm2 (by rw [World.size_alloc]; exact Nat.le_succ_of_le HY6.out) ?_; intro v7 w7 hown7 hgrow7 _; obtain ⟨ta7, tc7, rfl, _⟩ := owns_shape hown7; have hBT : Below w5.heap.size w5 w7 := (HBM6.out.alloc HY6.out (.cells #[.int .i64 0, .int .i64 0, .int .i64 7] 54)).grown hgrow7 (by rw [World.size_alloc]; exact Nat.le_succ_of_le HY6.out) (fun z hz => (HT0.out z hz).1); have HBT := Lib.hid hBT; have HOT := Lib.hid hown7; clear hBT hown7 hgrow7)
    have HC7 := Lib.hid (HC5.out.below HBT.out)
    have HB7 := Lib.hid (HB5.out.trans (HBT.out.mono (Nat.le_of_lt (blk_lt HC5.out.blk))))
    have HZ7 := Lib.hid (Nat.le_trans HZ5.out HBT.out.size)
    have HNt := Lib.hid (owns_nil HOT.out)
    have HRt_7 := Lib.hid (show Row anyB w7 3 (L ++ [(⟨0, 0, 7⟩ : M3)]).length (.slice ta7 (nt + 1) tc7) (flatC mC (L ++ [(⟨0, 0, 7⟩ : M3)])) by rw [List.length_append, List.length_singleton, HLL.out, flatC_push]; exact (Row.of_owns HOT.out).mono (fun _ _ => trivial) (fun _ _ _ _ h => h))
    clear HC6 HB6 HZ6 HO6 HBM6
    go_wp2_with fail
    refine (HSC.out _).mono ?_
    rintro e w8 ⟨⟨v8, rfl, hr8⟩, hb8⟩
    obtain ⟨xa, xc, rfl, _⟩ := hr8.shape
    have HC8 := Lib.hid (HC7.out.below hb8)
    have HB8 := Lib.hid (HB7.out.trans (hb8.mono (Nat.le_of_lt (blk_lt HC7.out.blk))))
    have HZ8 := Lib.hid (Nat.le_trans HZ7.out hb8.size)
    have HRt_8 := Lib.hid (HRt_7.out.below hb8)
    clear HRt_7
    have HRx_8 := Lib.hid (show Row (fun x => MM ≤ x ∧ S1 x) w8 7 (setCh c).length (.slice xa (setCh c).length xc) (flatC chC (setCh c)) from hr8.mono (fun x hx => ⟨Nat.le_trans HZ7.out hx, trivial⟩) (fun _ _ _ _ h => h))
    clear hr8 hb8
    go_wp2_with fail
    refine (getNil_any _ _ _).mono ?_
    rintro e w9 ⟨rfl, hm9⟩
    have hb9 := hm9.below
    have HC9 := Lib.hid (HC8.out.below hb9)
    have HB9 := Lib.hid (HB8.out.trans (hb9.mono (Nat.le_of_lt (blk_lt HC8.out.blk))))
    have HZ9 := Lib.hid (Nat.le_trans HZ8.out hb9.size)
    have HRt_9 := Lib.hid (HRt_8.out.below hb9)
    clear HRt_8
    go_wp2_with fail
    refine (HSC.out _).mono ?_
    rintro e w10 ⟨⟨v10, rfl, hr10⟩, hb10⟩
    obtain ⟨ya, yc, rfl, _⟩ := hr10.shape
    have HC10 := Lib.hid (HC9.out.below hb10)
    have HB10 := Lib.hid (HB9.out.trans (hb10.mono (Nat.le_of_lt (blk_lt HC9.out.blk))))
    have HZ10 := Lib.hid (Nat.le_trans HZ9.out hb10.size)
    have HRt_10 := Lib.hid (HRt_9.out.below hb10)
    clear HRt_9
    have HRy_10 := Lib.hid (show Row (fun x => MM ≤ x ∧ S1 x) w10 7 (setCh c).length (.slice ya (setCh c).length yc) (flatC chC (setCh c)) from hr10.mono (fun x hx => ⟨Nat.le_trans HZ9.out hx, trivial⟩) (fun _ _ _ _ h => h))
    clear hr10 hb10
    have HPU2 := Lib.hid (put2_any S1 CB 4 0 E MM _ _ (setCh c) (L ++ [(⟨0, 0, 7⟩ : M3)]) ((pick (ord16 false) 0).map keyI) (.slice ya (setCh c).length yc) (.slice ta7 (nt + 1) tc7) (.slice none 0 0) true w10 HC10.out HZ10.out (fun _ _ => trivial) (setCh_asc c) HRy_10.out (by have := setCh_len c; omega) HRt_10.out HNt.out (by rw [List.length_append, List.length_singleton, HLL.out]; omega) (row_none4 false w10) (by rw [List.length_map]; have := pick_len (ord16_len false) 0; omega) (by rw [HEL.out]; decide) (by rw [HEL.out]; decide))
    generalize (setCh c).length = ny at HPU2 ⊢
    go_wp2_with fail
    refine HPU2.out.mono ?_
    rintro e w11 hr11
    have HB11 := Lib.hid (HB10.out.trans hr11.below)
    obtain ⟨rfl, hc11⟩ := hr11.no HPT.out
    have HC11 := Lib.hid hc11
    have HZ11 := Lib.hid (Nat.le_trans HZ10.out hr11.below.size)
    clear hc11 hr11 HPU2
    have HLNc := Lib.hid (show Calls Try.prog 44 #[.pointer (some ⟨CB, 0, none⟩)] w11 fun e w' => e = .returned (.int .i64 1) ∧ w' = w11 from by
      obtain ⟨ea, ec, hcv⟩ := HC11.out.shape
      have hbk := HC11.out.blk
      rw [hcv] at hbk
      have := len_any CB ea E.length ec _ _ w11 hbk
      rw [HEL.out] at this
      exact this)
    go_wp2_with fail
    refine HLNc.out.mono ?_
    rintro e wl ⟨rfl, hw⟩
    subst wl
    go_wp2_with fail
    refine (HSC.out _).mono ?_
    rintro e w12 ⟨⟨v12, rfl, hr12⟩, hb12⟩
    obtain ⟨za, zc, rfl, _⟩ := hr12.shape
    have HC12 := Lib.hid (HC11.out.below hb12)
    have HB12 := Lib.hid (HB11.out.trans (hb12.mono (Nat.le_of_lt (blk_lt HC11.out.blk))))
    have HZ12 := Lib.hid (Nat.le_trans HZ11.out hb12.size)
    have HRz_12 := Lib.hid (show Row (fun x => MM ≤ x ∧ S1 x) w12 7 (setCh c).length (.slice za (setCh c).length zc) (flatC chC (setCh c)) from hr12.mono (fun x hx => ⟨Nat.le_trans HZ11.out hx, trivial⟩) (fun _ _ _ _ h => h))
    clear hr12 hb12
    go_wp2_with fail
    refine (putNil_any _ _ _ _ _).mono ?_
    rintro e w13 ⟨rfl, hm13⟩
    have hb13 := hm13.below
    have HC13 := Lib.hid (HC12.out.below hb13)
    have HB13 := Lib.hid (HB12.out.trans (hb13.mono (Nat.le_of_lt (blk_lt HC12.out.blk))))
    have HZ13 := Lib.hid (Nat.le_trans HZ12.out hb13.size)
    clear hm13 hb13
    go_wp2_with fail
    refine (lenNil_any _).mono ?_
    rintro e wl ⟨rfl, hw⟩
    subst wl
    go_wp2_with fail
    refine (hitsNil_any _).mono ?_
    rintro e wl ⟨rfl, hw⟩
    subst wl
    have HBZ := Lib.hid (show Below w.heap.size w w13 from (more_trans (more_of HB0.out) (show More w0 w13 from by have := HB13.out; rw [HCB.out] at this; exact more_of this)).below)
    go_wp2_with fail
    go_ret
    exact ⟨rfl, HBZ.out⟩
end Go.Proofs.Ytemeppfikpafbaa
