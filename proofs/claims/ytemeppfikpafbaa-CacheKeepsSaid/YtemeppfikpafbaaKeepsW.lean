/- The walk of CacheKeeps (13). -/
import Derived.Test.YtemeppfikpafbaaKeepP
import Derived.Test.YtemeppfikpafbaaAwkC2
namespace Go.Proofs.Ytemeppfikpafbaa
open Go.RowKit
theorem keeps_ask {h u : Nat} (hh : h < 65536) (hu : u < 65536) : getR (getE [entB 65535 h u false true] (setCh u) (holdM h)) = .tuple #[.bool true, .bool true] := by
  have hs : u &&& 65535 = u := by
    have := Nat.and_two_pow_sub_one_of_lt_two_pow (n := 16) (x := u) (by omega)
    simpa using this
  have := app_bits (c := 65535) (u := u) (a := u) (h := h) (k := h) false true hs hu hu hh hh
  rw [decide_eq_true rfl, hs, Nat.and_self, decide_eq_true rfl, Bool.true_and, Bool.true_and] at this
  unfold getE
  rw [List.reverse_singleton, List.find?_cons, this]
  rfl
theorem IntsAt.at {w : World} {a : Option Addr} {n k c T i : Nat} (h : IntsAt w a n k c T) (hi : i < n) : ∃ (g : Nat) (x : Int), a = some ⟨g, 0, none⟩ ∧ w.cell? ⟨g, i * k + c, none⟩ = some (.int .i64 x) ∧ w.frozen? ⟨g, i * k + c, none⟩ = false ∧ ∀ y : Int, IntsAt (w.setCell ⟨g, i * k + c, none⟩ (.int .i64 y)) a n k c T := by
  have hs := fun y => h.set hi y
  rcases h with h | ⟨g, cur, e, hb, hq⟩
  · omega
  · obtain ⟨x, hx⟩ := hq i hi
    refine ⟨g, x, e, cell_of_blk hb hx, thaw hb _, fun y => ?_⟩
    obtain ⟨g', e', h'⟩ := hs y
    rw [e] at e'
    cases e'
    exact h'
set_option maxRecDepth 100000 in
set_option maxHeartbeats 8000000 in
theorem cacheKeeps_walk (h u : Nat) (w : World) (hh : h < 65536) (hu : u < 65536) : Calls Try.prog 13 #[.int .u16 h, .int .u16 u] w fun e w' => e = .returned (.bool true) ∧ Below w.heap.size w w' := by
  have HAW := Lib.hid (fun W => awakeC_any W)
  have HNEW := Lib.hid (show ∀ W, Calls Try.prog 36 #[.int .i64 2] W fun e w' => e = .returned (.pointer (some ⟨W.heap.size, 0, none⟩)) ∧ w' = W.alloc (.cells #[.int .i64 2, .slice none 0 0, .int .i64 0] 146) from fun W => newCache_any 2 W)
  have HSF := Lib.hid (show ∀ W, Calls Try.prog 38 #[.int .u16 65535] W fun e w' => (∃ v, e = .returned (.agg #[v]) ∧ Row (fun x => W.heap.size ≤ x) w' 7 (setCh 65535).length v (flatC chC (setCh 65535))) ∧ Below W.heap.size W w' from fun W => set_row 65535 W)
  have HSU := Lib.hid (fun W => set_row u W)
  have HMH := Lib.hid (fun W => messages_any h false W)
  have HMT := Lib.hid (fun W => messages_any h true W)
  have HKU := Lib.hid (fun W => keys_any u false W)
  have HPO := Lib.hid ((putok_bits (c := 65535) (h := h) hu false false).2 (by
    have := Nat.and_two_pow_sub_one_of_lt_two_pow (n := 16) (x := u) (by omega)
    simpa using this))
  have HGE := Lib.hid (keeps_ask hh hu)
  have HPL1 := Lib.hid (pick_len (ord16_len false) h)
  have HPL2 := Lib.hid (pick_len (ord16_len false) u)
  clear hh hu
  go_enter Try.func13, Try.ntmps13
  go_wp2_with fail
  refine (HAW.out _).mono ?_
  rintro e w0 ⟨rfl, hb1⟩
  have HB0 := Lib.hid hb1
  clear hb1 HAW
  go_wp2_with fail
  refine (HNEW.out _).mono ?_
  rintro e w1 ⟨rfl, hw1⟩
  obtain ⟨CB, HCB⟩ : ∃ CB, Hid (CB = w0.heap.size) := ⟨_, Lib.hid rfl⟩
  have HC1 := Lib.hid (show ∀ S0, CState S0 w1 CB 2 0 [] (CB + 1) (.slice none 0 0) [] by rw [hw1, HCB.out]; exact fun S0 => CState.start _ _ _)
  have HB1 := Lib.hid (show Below CB w0 w1 by rw [hw1, HCB.out]; exact (Below.refl _ _).alloc (Nat.le_refl _) _)
  have HZ1 := Lib.hid (show CB + 1 ≤ w1.heap.size by rw [hw1, World.size_alloc, HCB.out]; exact Nat.le_refl _)
  have HK1 := Lib.hid (show CB < w1.heap.size from HZ1.out)
  rw [← HCB.out]
  clear hw1
  go_wp2_with fail
  refine (HMH.out _).mono ?_
  rintro e w2 ⟨⟨v2, rfl, ho2⟩, hb2⟩
  have HNm := Lib.hid (owns_nil ho2)
  obtain ⟨ma, mc, rfl, HMZ⟩ := owns_shape ho2
  have HO2 := Lib.hid ho2
  have HC2 := Lib.hid (fun S0 => (HC1.out S0).below hb2)
  have HB2 := Lib.hid (HB1.out.trans (hb2.mono (Nat.le_of_lt HK1.out)))
  have HZ2 := Lib.hid (Nat.le_trans HZ1.out hb2.size)
  have HMZ1 := Lib.hid HMZ
  clear ho2 hb2 HC1 HMZ
  go_wp2_with fail
  refine (HKU.out _).mono ?_
  rintro e w3 ⟨⟨v3, rfl, ho3⟩, hb3⟩
  have HNk := Lib.hid (owns_nil ho3)
  obtain ⟨ka, kc, rfl, HKZ⟩ := owns_shape ho3
  have HO3 := Lib.hid ho3
  have HOM3 := Lib.hid (owns_keep HO2.out (fun z hz => hb3.block z (HMZ1.out z hz).2))
  have HC3 := Lib.hid (fun S0 => (HC2.out S0).below hb3)
  have HB3 := Lib.hid (HB2.out.trans (hb3.mono (Nat.le_of_succ_le HZ2.out)))
  have HZ3 := Lib.hid (Nat.le_trans HZ2.out hb3.size)
  have HKZ1 := Lib.hid HKZ
  have HS23 := Lib.hid hb3.size
  clear ho3 hb3 HC2 HKZ HO2
  go_wp2_with fail
  refine (HSF.out _).mono ?_
  rintro e w4 ⟨⟨v4, rfl, hr4⟩, hb4⟩
  obtain ⟨sa, sc, rfl, _⟩ := hr4.shape
  have HOM4 := Lib.hid (owns_keep HOM3.out (fun z hz => hb4.block z (Nat.lt_of_lt_of_le (HMZ1.out z hz).2 HS23.out)))
  have HOK4 := Lib.hid (owns_keep HO3.out (fun z hz => hb4.block z (HKZ1.out z hz).2))
  have HC4 := Lib.hid (fun S0 => (HC3.out S0).below hb4)
  have HB4 := Lib.hid (HB3.out.trans (hb4.mono (Nat.le_of_succ_le HZ3.out)))
  have HZ4 := Lib.hid (Nat.le_trans HZ3.out hb4.size)
  have HS34 := Lib.hid hb4.size
  obtain ⟨SK, hSK⟩ : ∃ SK : Nat → Prop, SK = fun b => (Value.slice ma (pick (ord16 false) h).length mc).ownBlock ≠ some b ∧ (Value.slice ka (pick (ord16 false) u).length kc).ownBlock ≠ some b := ⟨_, rfl⟩
  have HSK := Lib.hid (show ∀ b, w3.heap.size ≤ b → SK b from fun b hb => by
    rw [hSK]
    exact ⟨fun e => by have := (HMZ1.out b e).2; have := HS23.out; omega, fun e => by have := (HKZ1.out b e).2; omega⟩)
  have HSM := Lib.hid (show ∀ b, (Value.slice ma (pick (ord16 false) h).length mc).ownBlock = some b → ¬ SK b from fun b e h => by rw [hSK] at h; exact h.1 e)
  have HSKK := Lib.hid (show ∀ b, (Value.slice ka (pick (ord16 false) u).length kc).ownBlock = some b → ¬ SK b from fun b e h => by rw [hSK] at h; exact h.2 e)
  have HRS := Lib.hid (hr4.mono (S' := fun x => CB + 1 ≤ x ∧ SK x) (fun x hx => ⟨Nat.le_trans HZ3.out hx, HSK.out x hx⟩) (fun _ _ _ _ h => h))
  clear hSK hr4 hb4 HOM3 HO3 HC3
  have HRM := Lib.hid (show Row anyB w4 3 ((pick (ord16 false) h).map msgI).length (.slice ma (pick (ord16 false) h).length mc) (flatC mC ((pick (ord16 false) h).map msgI)) by rw [List.length_map]; exact (Row.of_owns HOM4.out).mono (fun _ _ => trivial) (fun _ _ _ _ h => h))
  have HRK := Lib.hid (show Row anyB w4 4 ((pick (ord16 false) u).map keyI).length (.slice ka (pick (ord16 false) u).length kc) (flatC kC ((pick (ord16 false) u).map keyI)) by rw [List.length_map]; exact (Row.of_owns HOK4.out).mono (fun _ _ => trivial) (fun _ _ _ _ h => h))
  have HPUT := Lib.hid (put2_bits SK CB 2 0 [] (CB + 1) _ _ 65535 h u false false (.slice sa (setCh 65535).length sc) (.slice ma (pick (ord16 false) h).length mc) (.slice ka (pick (ord16 false) u).length kc) true w4 (HC4.out SK) HZ4.out (fun b hb => HSK.out b (Nat.le_trans HS34.out hb)) HRS.out HRM.out HNm.out HRK.out (by decide) (by decide))
  have HIM4 := Lib.hid (IntsAt.of_owns mC_len 2 (by omega) (fun x => ⟨x.n, rfl⟩) (by rw [List.length_map]) HOM4.out)
  have HIK4 := Lib.hid (IntsAt.of_owns kC_len 3 (by omega) (fun x => ⟨x.n, rfl⟩) (by rw [List.length_map]) HOK4.out)
  clear HRM HRK HRS HOM4 HOK4 HC4
  have hpl1 := HPL1.out
  have hpl2 := HPL2.out
  generalize (setCh 65535).length = ns at HPUT ⊢
  obtain ⟨nm, hnm⟩ : ∃ nm, nm = (pick (ord16 false) h).length := ⟨_, rfl⟩
  obtain ⟨nk, hnk⟩ : ∃ nk, nk = (pick (ord16 false) u).length := ⟨_, rfl⟩
  rw [← hnm] at HPUT HIM4 HMZ1 HSM hpl1 ⊢
  rw [← hnk] at HPUT HIK4 HKZ1 HSKK hpl2 ⊢
  clear hnm hnk HPL1 HPL2
  go_wp2_with fail
  refine HPUT.out.mono ?_
  rintro e w5 hr5
  obtain ⟨rfl, cv, raw, hc5, hv5⟩ := hr5.yes HPO.out
  rw [ent_bits] at hc5
  have HC5 := Lib.hid (show CState SK w5 CB 2 0 [entB 65535 h u false true] w5.heap.size cv raw from hc5)
  have HV5 := Lib.hid (show ∀ z, cv.ownBlock = some z → w4.heap.size ≤ z from fun z hz => (hv5 z hz).resolve_left (by simp [Value.ownBlock]))
  have HB5 := Lib.hid (HB4.out.trans hr5.below)
  have HS45 := Lib.hid hr5.below.size
  have HIM5 := Lib.hid (HIM4.out.keep (w' := w5) (fun g e => hr5.other g (by have := (HMZ1.out g (by rw [e]; rfl)).2; have := HS23.out; have := HS34.out; omega) (by have := (HMZ1.out g (by rw [e]; rfl)).1; have := HZ1.out; omega) (by simp [Value.ownBlock])))
  have HIK5 := Lib.hid (HIK4.out.keep (w' := w5) (fun g e => hr5.other g (by have := (HKZ1.out g (by rw [e]; rfl)).2; have := HS34.out; omega) (by have := (HKZ1.out g (by rw [e]; rfl)).1; have := HZ2.out; omega) (by simp [Value.ownBlock])))
  clear hr5 hc5 hv5 HPUT HIM4 HIK4
  go_wp2_with fail
  go_loopw [27] (fun i wr => ∃ j : Nat, j ≤ nm ∧ i = .int .i64 j ∧ Hid (w5.grownBy wr (Value.slice ma nm mc).ownBlock) ∧ Hid (IntsAt wr ma nm 3 2 54)) (fun i _ => nm - (intOf i).toNat)
  case atStart => exact ⟨0, Nat.zero_le _, rfl, Lib.hid (World.grownBy.refl _ _), HIM5⟩
  case round =>
    obtain ⟨j, hj, rfl, HG, HI⟩ := hrel
    by_cases hlt : j < nm
    · obtain ⟨g, x, rfl, c2, f2, hset⟩ := HI.out.at hlt
      have HSET := Lib.hid hset
      have hcb := cell_lt c2
      clear hset
      go_wp2_with fail
      go_roundw
      case rel => exact ⟨j + 1, by omega, by go_num, Lib.hid (grownBy_trans HG.out ⟨rfl, rfl, rfl, by simp, fun k _ hk => Below.heap_setCell _ _ _ _ (show k ≠ g from fun e => hk (by rw [e]; rfl))⟩), Lib.hid (HSET.out _)⟩
      case measure => simp [intOf]; omega
    · obtain rfl : j = nm := by omega
      obtain ⟨w6, rfl⟩ : ∃ w6 : World, w6 = wr := ⟨_, rfl⟩
      have HB6 := Lib.hid (HB5.out.grown HG.out (by have := HZ4.out; have := HS45.out; omega) (fun z hz => by have := (HMZ1.out z hz).1; have := HZ1.out; omega))
      have HC6 := Lib.hid (HC5.out.other HG.out (fun g hg => ⟨by have := (HMZ1.out g hg).1; have := HZ1.out; omega, fun e => by have h1 := (HMZ1.out g hg).2; have h2 := HV5.out g e; have := HS23.out; have := HS34.out; omega, HSM.out g hg⟩))
      have HIK6 := Lib.hid (HIK5.out.keep (w' := w6) (fun g e => HG.out.block g (by have := (HKZ1.out g (by rw [e]; rfl)).2; have := HS34.out; have := HS45.out; omega) (fun e' => by have h1 := (HKZ1.out g (by rw [e]; rfl)).1; have h2 := (HMZ1.out g e'.symm).2; omega)))
      have HS56 := Lib.hid HG.out.size
      clear hlt hj HI
      go_wp2_with fail
      go_loopw [41] (fun i wr => ∃ j : Nat, j ≤ nk ∧ i = .int .i64 j ∧ Hid (w6.grownBy wr (Value.slice ka nk kc).ownBlock) ∧ Hid (IntsAt wr ka nk 4 3 48)) (fun i _ => nk - (intOf i).toNat)
      case atStart => exact ⟨0, Nat.zero_le _, rfl, Lib.hid (World.grownBy.refl _ _), HIK6⟩
      case round =>
        obtain ⟨j, hj, rfl, HG2, HI2⟩ := hrel
        by_cases hlt : j < nk
        · obtain ⟨g, x, rfl, c2, f2, hset⟩ := HI2.out.at hlt
          have HSET := Lib.hid hset
          have hcb := cell_lt c2
          clear hset
          go_wp2_with fail
          go_roundw
          case rel => exact ⟨j + 1, by omega, by go_num, Lib.hid (grownBy_trans HG2.out ⟨rfl, rfl, rfl, by simp, fun k _ hk => Below.heap_setCell _ _ _ _ (show k ≠ g from fun e => hk (by rw [e]; rfl))⟩), Lib.hid (HSET.out _)⟩
          case measure => simp [intOf]; omega
        · obtain rfl : j = nk := by omega
          obtain ⟨w7, rfl⟩ : ∃ w7 : World, w7 = wr := ⟨_, rfl⟩
          have HB7 := Lib.hid (HB6.out.grown HG2.out (by have := HZ4.out; have := HS45.out; have := HS56.out; omega) (fun z hz => by have := (HKZ1.out z hz).1; have := HZ2.out; omega))
          have HC7 := Lib.hid (HC6.out.other HG2.out (fun g hg => ⟨by have := (HKZ1.out g hg).1; have := HZ2.out; omega, fun e => by have h1 := (HKZ1.out g hg).2; have h2 := HV5.out g e; have := HS34.out; omega, HSKK.out g hg⟩))
          clear hlt hj HI2
          go_wp2_with fail
          refine (HSU.out _).mono ?_
          rintro e w8 ⟨⟨v8, rfl, hr8⟩, hb8⟩
          obtain ⟨xa, xc, rfl, _⟩ := hr8.shape
          have HR8 := Lib.hid (hr8.mono (S' := anyB) (fun _ _ => trivial) (fun _ _ _ _ h => h))
          have HC8 := Lib.hid (HC7.out.below hb8)
          have HB8 := Lib.hid (HB7.out.trans (hb8.mono (Nat.le_of_lt (blk_lt HC7.out.blk))))
          clear hr8 hb8
          go_wp2_with fail
          refine (HMT.out _).mono ?_
          rintro e w9 ⟨⟨v9, rfl, ho9⟩, hb9⟩
          have HN9 := Lib.hid (owns_nil ho9)
          obtain ⟨ya, yc, rfl, _⟩ := owns_shape ho9
          have HR9 := Lib.hid (HR8.out.below hb9)
          have HC9 := Lib.hid (HC8.out.below hb9)
          have HB9 := Lib.hid (HB8.out.trans (hb9.mono (Nat.le_of_lt (blk_lt HC8.out.blk))))
          have HY9 := Lib.hid (show Row anyB w9 3 ((pick (ord16 true) h).map msgI).length (.slice ya (pick (ord16 true) h).length yc) (flatC mC ((pick (ord16 true) h).map msgI)) by rw [List.length_map]; exact (Row.of_owns ho9).mono (fun _ _ => trivial) (fun _ _ _ _ h => h))
          clear ho9 hb9
          have HGET := Lib.hid (show Calls Try.prog 42 #[.pointer (some ⟨CB, 0, none⟩), .agg #[.slice xa (setCh u).length xc], .slice ya (pick (ord16 true) h).length yc] w9 fun e w' => e = .returned (.tuple #[.bool true, .bool true]) ∧ Below CB w9 w' from by
            have := get_bits SK CB 2 0 [entB 65535 h u false true] w5.heap.size cv raw u h true (.slice xa (setCh u).length xc) (.slice ya (pick (ord16 true) h).length yc) w9 HC9.out HR9.out HY9.out HN9.out (by simp) (by decide)
            rw [HGE.out] at this
            exact this.mono fun _ _ h => ⟨h.1.1, h.2⟩)
          generalize (setCh u).length = n8 at HGET ⊢
          generalize (pick (ord16 true) h).length = n9 at HGET ⊢
          go_wp2_with fail
          refine HGET.out.mono ?_
          rintro e w10 ⟨rfl, hb10⟩
          have HBZ := Lib.hid (show Below w.heap.size w w10 from (more_trans (more_of HB0.out) (show More w0 w10 from by have := HB9.out.trans hb10; rw [HCB.out] at this; exact more_of this)).below)
          clear hb10
          go_wp2_with fail
          go_ret
          exact ⟨rfl, HBZ.out⟩
end Go.Proofs.Ytemeppfikpafbaa
