/- Texts RdcG, laid together. -/
import Derived.Test.YtemeppfikpafbaaGreatDoorBr
import Derived.Test.YtemeppfikpafbaaGreatDoorBv
/- certificate.Read (57). -/
namespace Go.Proofs.YtemeppfikpafbaaGreatDoor
open Go.RowKit
/-- The certificate that is being read, in block CB: its 32 bytes, and the seven fields behind them. -/
structure RdC (CB : Nat) (arr : Array Value) (fl : List Int) (F : List Value) (W : World) : Prop where
  blk : W.heap[CB]? = some (.cells arr 35)
  size : arr.size = 39
  fl : ∀ i, i < 32 → arr[i]? = some (.int .u8 (fl.getD i 0))
  len : F.length = 7
  F : ∀ i, i < 7 → arr[32 + i]? = F[i]?
theorem RdC.setF {CB : Nat} {arr : Array Value} {fl : List Int} {F : List Value} {W : World} (h : RdC CB arr fl F W) (i : Nat) (hi : i < 7) (u : Value) : RdC CB (arr.setIfInBounds (32 + i) u) fl (F.set i u) (W.setCell ⟨CB, 32 + i, none⟩ u) :=
  ⟨setCell_heap h.blk, by rw [Array.size_setIfInBounds]; exact h.size, fun j hj => (set_ne8 (by omega)).trans (h.fl j hj), by rw [List.length_set]; exact h.len, fun j hj => by
    by_cases e : i = j
    · subst e
      rw [set_eq8 (by rw [h.size]; omega), List.getElem?_set_self (by rw [h.len]; omega)]
    · rw [set_ne8 (by omega), List.getElem?_set_ne e]; exact h.F j hj⟩
theorem RdC.setB {CB : Nat} {arr : Array Value} {fl : List Int} {F : List Value} {W : World} (h : RdC CB arr fl F W) (j : Nat) (hj : j < 32) (hl : fl.length = j) (b : Int) : RdC CB (arr.setIfInBounds j (.int .u8 b)) (fl ++ [b]) F (W.setCell ⟨CB, j, none⟩ (.int .u8 b)) :=
  ⟨setCell_heap h.blk, by rw [Array.size_setIfInBounds]; exact h.size, fun i hi => by
    by_cases e : j = i
    · subst e
      rw [set_eq8 (by rw [h.size]; omega), List.getD_eq_getElem?_getD, List.getElem?_append_right (by omega), hl, Nat.sub_self]
      rfl
    · rw [set_ne8 e, h.fl i hi, List.getD_eq_getElem?_getD, List.getD_eq_getElem?_getD]
      congr 2
      by_cases e2 : i < j
      · rw [List.getElem?_append_left (by omega)]
      · rw [List.getElem?_eq_none (by omega), List.getElem?_eq_none (by rw [List.length_append, List.length_singleton]; omega)], h.len, fun i hi => (set_ne8 (by omega)).trans (h.F i hi)⟩
theorem RdC.keep {CB : Nat} {arr : Array Value} {fl : List Int} {F : List Value} {W W' : World} (h : RdC CB arr fl F W) (hk : W'.heap[CB]? = W.heap[CB]?) : RdC CB arr fl F W' := ⟨hk.trans h.blk, h.size, h.fl, h.len, h.F⟩
theorem rBys_len (n : Nat) (s : RS) : (rBys n s).1.length = n := by
  induction n with
  | zero => rfl
  | succ n ih => simp [rBys, ih]
theorem rBytes_byts {s : RS} (most : Nat) (h : Byts s.1) : Byts (rBytes most s).1 ∧ Byts (rBytes most s).2.1 := by
  unfold rBytes
  split
  · split
    · exact ⟨fun b hb => (by cases hb), h⟩
    · split
      · split
        · exact ⟨fun b hb => h b (List.mem_of_mem_drop (List.mem_of_mem_take hb)), h.drop _⟩
        · exact ⟨fun b hb => (by cases hb), h⟩
      · exact ⟨fun b hb => (by cases hb), h⟩
  · exact ⟨fun b hb => (by cases hb), h⟩
theorem rBytes_le (most : Nat) (s : RS) : (rBytes most s).1.length ≤ most := by
  unfold rBytes
  split
  · split
    · exact Nat.zero_le _
    · split
      · split
        · show (List.take _ _).length ≤ most
          rw [List.length_take]
          omega
        · exact Nat.zero_le _
      · exact Nat.zero_le _
  · exact Nat.zero_le _
/-- The holds that were read so far, in blocks from M on. -/
structure LstH (M : Nat) (w : World) (v : Value) (l : List HV) : Prop where
  own : w.ownsRow M 68 4 v l.length (flatC hC l)
  ent : ∀ p ∈ l, HAt (fun b => M ≤ b ∧ v.ownBlock ≠ some b) w p
theorem LstH.keep {M : Nat} {w w' : World} {v : Value} {l : List HV} (h : LstH M w v l) (hk : ∀ b, M ≤ b → b < w.heap.size → w'.heap[b]? = w.heap[b]?) : LstH M w' v l :=
  ⟨owns_keep h.own (fun z hz => hk z (h.own.lt z hz).1 (h.own.lt z hz).2), fun p hp => (h.ent p hp).mono (fun _ hb _ => hb) (fun b hb hl => hk b hb.1 hl)⟩
theorem LstH.push {M : Nat} {w w' : World} {v v' : Value} {l : List HV} (h : LstH M w v l) {p : HV} (hp : HAt (fun b => M ≤ b ∧ v.ownBlock ≠ some b) w p)
    (hown : w'.ownsRow M 68 4 v' (l.length + 1) (flatC hC l ++ hC p)) (hg : w.grownBy w' v.ownBlock) (hv : ∀ z, v'.ownBlock = some z → v.ownBlock = some z ∨ w.heap.size ≤ z) : LstH M w' v' (l ++ [p]) := by
  have key : ∀ x : HV, HAt (fun b => M ≤ b ∧ v.ownBlock ≠ some b) w x → HAt (fun b => M ≤ b ∧ v'.ownBlock ≠ some b) w' x := fun x hx => hx.mono (fun b hb hl => ⟨hb.1, fun e => by
    rcases hv b e with h1 | h1
    · exact hb.2 h1
    · omega⟩) (fun b hb hl => hg.block b hl (fun e => hb.2 e.symm))
  refine ⟨by rw [List.length_append, List.length_singleton, flatC_push]; exact hown, fun x hx => ?_⟩
  rcases List.mem_append.1 hx with h1 | h1
  · exact key x (h.ent x h1)
  · rw [List.mem_singleton] at h1; subst h1; exact key x hp
theorem rHolds_len (n : Nat) (s : RS) : (rHolds n s).1.length = n := by
  induction n with
  | zero => rfl
  | succ n ih => simp [rHolds, ih]
theorem rAr_byts {s : RS} (h : Byts s.1) : Byts (rAr s).2.1 := (rInts_64 (rUint_byts 4 (rUint_byts 2147483647 (rUint_byts 200 h))) _).2
theorem rArs_byts {s : RS} (h : Byts s.1) (n : Nat) : Byts (rArs n s).2.1 := by
  induction n with
  | zero => exact h
  | succ n ih => exact rAr_byts ih
theorem rHold_byts {s : RS} (h : Byts s.1) : Byts (rHold s).2.1 := rArs_byts (rUint_byts 2 (rUint_byts 2147483647 (rUint_byts 2147483647 (rUint_byts 2147483647 h)))) _
theorem rKeys_len (n : Nat) (s : RS) : (rKeys n s).1.length = n := by
  induction n with
  | zero => rfl
  | succ n ih => simp [rKeys, ih]
def z98 : Array Value := #[.int .u8 0, .int .u8 0, .int .u8 0, .int .u8 0, .int .u8 0, .int .u8 0, .int .u8 0, .int .u8 0, .int .u8 0, .int .u8 0, .int .u8 0, .int .u8 0, .int .u8 0, .int .u8 0, .int .u8 0, .int .u8 0, .int .u8 0, .int .u8 0, .int .u8 0, .int .u8 0, .int .u8 0, .int .u8 0, .int .u8 0, .int .u8 0, .int .u8 0, .int .u8 0, .int .u8 0, .int .u8 0, .int .u8 0, .int .u8 0, .int .u8 0, .int .u8 0, .string (ByteArray.mk #[]), .int .i64 0, .slice none 0 0, .slice none 0 0, .slice none 0 0, .int .i64 0, .int .i64 0]
theorem z98_built : Tryz.prog.built 35 [] = some z98 := by kernel_rfl
theorem z98_rd (CB : Nat) {W : World} (h : W.heap[CB]? = some (.cells z98 35)) : RdC CB z98 [] [.string (ByteArray.mk #[]), .int .i64 0, .slice none 0 0, .slice none 0 0, .slice none 0 0, .int .i64 0, .int .i64 0] W :=
  ⟨h, rfl, fun i hi => by
    have e : z98 = (List.replicate 32 (Value.int .u8 0) ++ ([.string (ByteArray.mk #[]), .int .i64 0, .slice none 0 0, .slice none 0 0, .slice none 0 0, .int .i64 0, .int .i64 0] : List Value)).toArray := by kernel_rfl
    rw [e, List.getElem?_toArray, List.getElem?_append_left (by simpa using hi), List.getElem?_replicate, if_pos hi]
    rfl, rfl, fun i hi => by
    have hj : i = 0 ∨ i = 1 ∨ i = 2 ∨ i = 3 ∨ i = 4 ∨ i = 5 ∨ i = 6 := by omega
    rcases hj with rfl | rfl | rfl | rfl | rfl | rfl | rfl <;> rfl⟩
theorem results57_at {W : World} {B : Nat} {A : Array Value} {E : Int} (hld : (loadVar 35 ⟨B, 0, none⟩).run Tryz.prog W = .ok (.agg A) W) (tmps : Array Value) (h2 : tmps[2]? = some (.pointer (some ⟨B, 0, none⟩))) (h3 : tmps[3]? = some (.int .i64 E)) : (results Tryz.f12 tmps).run Tryz.prog W = .ok (.tuple #[.agg A, .int .i64 E]) W := by
  simp [results, Tryz.results12, asAddr, h2, h3, hld]
set_option maxRecDepth 100000 in
set_option maxHeartbeats 8000000 in
theorem read57_any (S0 : Nat → Prop) (l : List Int) (v : Value) (w : World) (hl : l.length ≤ 1000000) (hy : Byts l) (h : ByV S0 w l v) :
    Calls Tryz.prog 12 #[v] w fun e w' => (∃ arr E, e = .returned (.tuple #[.agg arr, .int .i64 E]) ∧ ((E = 6 ∧ arr = z98 ∧ NoCert l) ∨ (E = 0 ∧ ∃ fl c, fl.length = 32 ∧ CertAt w' arr c ∧ (∀ i, i < 32 → arr[i]? = some (.int .u8 (fl.getD i 0))) ∧ (∀ p ∈ c.S, ∀ n ∈ p.2.l, In64 n) ∧ (∀ p ∈ c.H, ∀ a ∈ p.2.al, ∀ n ∈ a.2.l, In64 n) ∧ Chk c 0 ∧ encCt fl c = l))) ∧ Below w.heap.size w w' := by
  obtain ⟨N, HN⟩ : ∃ N, Hid (N = w.heap.size) := ⟨_, Lib.hid rfl⟩
  have HB0 := Lib.hid (show (w.alloc (.cells z98 35)).heap[w.heap.size]? = some (.cells z98 35) from alloc_last w (.cells z98 35))
  have HM1 := Lib.hid (more_alloc w (.cells z98 35))
  have HNR := Lib.hid (newR_any S0 l v (w.alloc (.cells z98 35)) (by omega) hy (h.below HM1.out.below))
  have HSZ := Lib.hid (show w.heap.size < (w.alloc (.cells z98 35)).heap.size from blk_lt HB0.out)
  obtain ⟨va, vcap, rfl, hvr, hvp⟩ := h
  have HVR := Lib.hid hvr; clear hvr
  have HVN := Lib.hid (show NilA (.slice va l.length vcap) from fun n c e => by cases e; exact hvp.nil rfl)
  have HY := Lib.hid hy; clear hy
  unfold z98 at HNR HB0 HM1 HSZ
  rw [← HN.out] at HB0 HSZ ⊢
  go_enter Tryz.func12, Tryz.ntmps12
  go_upto_region 1 with (fail)
  rw [← HN.out]
  generalize w.alloc (.cells (#[.int .u8 0, .int .u8 0, .int .u8 0, .int .u8 0, .int .u8 0, .int .u8 0, .int .u8 0, .int .u8 0, .int .u8 0, .int .u8 0, .int .u8 0, .int .u8 0, .int .u8 0, .int .u8 0, .int .u8 0, .int .u8 0, .int .u8 0, .int .u8 0, .int .u8 0, .int .u8 0, .int .u8 0, .int .u8 0, .int .u8 0, .int .u8 0, .int .u8 0, .int .u8 0, .int .u8 0, .int .u8 0, .int .u8 0, .int .u8 0, .int .u8 0, .int .u8 0, .string (ByteArray.mk #[]), .int .i64 0, .slice none 0 0, .slice none 0 0, .slice none 0 0, .int .i64 0, .int .i64 0] : Array Value) 35) = w1 at *
  go_wp2_with fail
  refine HNR.out.mono ?_
  rintro e w2 ⟨rb, rfl, hm2, hrb, hd2⟩
  have HM2 := Lib.hid (more_trans HM1.out hm2)
  have HB2 := Lib.hid ((hm2.block (blk_lt HB0.out)).trans HB0.out)
  have HNB := Lib.hid (show N < rb from Nat.lt_of_lt_of_le HSZ.out hrb)
  have HD2 := Lib.hid (show RdS w2 rb (l, 0) from hd2)
  clear hm2 hrb hd2
  have HBX0 := Lib.hid (alloc_last w2 (.cells #[.pointer (some ⟨rb, 0, none⟩)] 81))
  have HMB := Lib.hid (more_alloc w2 (.cells #[.pointer (some ⟨rb, 0, none⟩)] 81))
  go_upto_region 2 with (fail)
  generalize w2.alloc (.cells #[.pointer (some ⟨rb, 0, none⟩)] 81) = w3 at *
  obtain ⟨bx, HBE⟩ : ∃ bx, Hid (bx = w2.heap.size) := ⟨_, Lib.hid rfl⟩
  rw [← HBE.out] at HBX0 ⊢
  have HRX := Lib.hid (show rb < bx by rw [HBE.out]; exact HD2.out.lt)
  have HD3 := Lib.hid (show RdS w3 rb (l, 0) from HD2.out.more HMB.out)
  have HB3 := Lib.hid ((HMB.out.block (blk_lt HB2.out)).trans HB2.out)
  have HMW := Lib.hid (more_trans HM2.out HMB.out)
  have HBW := Lib.hid (show ∀ W, w3.grownBy W (some rb) → W.heap[bx]? = some (.cells #[.pointer (some ⟨rb, 0, none⟩)] 81) from fun W hW => (hW.block bx (blk_lt HBX0.out) (fun e => by injection e with e; have := HRX.out; omega)).trans HBX0.out)
  have HNW := Lib.hid (show ∀ W, w3.grownBy W (some rb) → W.heap[N]? = some (.cells z98 35) from fun W hW => (hW.block N (blk_lt HB3.out) (fun e => by injection e with e; have := HNB.out; omega)).trans HB3.out)
  have HBL := Lib.hid (show ∀ W, w3.grownBy W (some rb) → Below N w W from fun W hW => (show Below N w w3 by rw [HN.out]; exact HMW.out.below).grown hW (by rw [HN.out]; exact HMW.out.size) (fun z hz => by injection hz with hz; have := HNB.out; omega))
  have HFAIL := Lib.hid (noCert_of (l := l))
  have b0 : w3.cell? ⟨bx, 0, none⟩ = some (.pointer (some ⟨rb, 0, none⟩)) := cell_of_blk HBX0.out rfl
  have hbb := cell_lt b0
  have HYB := Lib.hid (rByte_byts (s := (l, 0)) HY.out)
  obtain ⟨k0, HK0⟩ : ∃ k0, Hid ((rByte (l, 0)).1 = k0) := ⟨_, Lib.hid rfl⟩
  obtain ⟨s0, HS0⟩ : ∃ s0, Hid ((rByte (l, 0)).2 = s0) := ⟨_, Lib.hid rfl⟩
  have HCB := Lib.hid (rdByte_any rb (l, 0) w3 HD3.out)
  rw [HK0.out] at HCB
  rw [HS0.out] at HCB HYB
  go_wp2_with fail
  refine HCB.out.mono ?_
  rintro e w4 ⟨rfl, hg4, hd4⟩
  have HG4 := Lib.hid hg4
  have HD4 := Lib.hid hd4
  clear hg4 hd4 b0 hbb HCB
  by_cases hk1 : k0 = 1
  · subst hk1
    have HCB0 := Lib.hid (show (w4.alloc (.cells z98 35)).heap[w4.heap.size]? = some (.cells z98 35) from alloc_last w4 (.cells z98 35))
    have HMC := Lib.hid (more_alloc w4 (.cells z98 35))
    go_upto_region 6 with (fail)
    have hz98 : (#[.int .u8 0, .int .u8 0, .int .u8 0, .int .u8 0, .int .u8 0, .int .u8 0, .int .u8 0, .int .u8 0, .int .u8 0, .int .u8 0, .int .u8 0, .int .u8 0, .int .u8 0, .int .u8 0, .int .u8 0, .int .u8 0, .int .u8 0, .int .u8 0, .int .u8 0, .int .u8 0, .int .u8 0, .int .u8 0, .int .u8 0, .int .u8 0, .int .u8 0, .int .u8 0, .int .u8 0, .int .u8 0, .int .u8 0, .int .u8 0, .int .u8 0, .int .u8 0, .string (ByteArray.mk #[]), .int .i64 0, .slice none 0 0, .slice none 0 0, .slice none 0 0, .int .i64 0, .int .i64 0] : Array Value) = z98 := rfl
    rw [hz98]
    clear hz98
    generalize w4.alloc (.cells z98 35) = w5 at *
    obtain ⟨CB, HCE⟩ : ∃ CB, Hid (CB = w4.heap.size) := ⟨_, Lib.hid rfl⟩
    rw [← HCE.out] at HCB0 ⊢
    have HG5 := Lib.hid (grown_any (World.grownBy.refl _ _ : More w3 w3) (grown_trans HG4.out (more_grown HMC.out rb)))
    have HD5 := Lib.hid (show RdS w5 rb s0 from HD4.out.more HMC.out)
    have HRC5 := Lib.hid (z98_rd CB HCB0.out)
    have HW3 := Lib.hid (show w3.heap.size ≤ CB by rw [HCE.out]; exact HG4.out.size)
    have HBX3 := Lib.hid (blk_lt HBX0.out)
    go_wp2_with fail
    go_loopw [18] (fun i wr => ∃ (j : Nat) (arr : Array Value), j ≤ 32 ∧ i = .int .i64 j ∧ Hid (RdC CB arr (rBys j s0).1 [.string (ByteArray.mk #[]), .int .i64 0, .slice none 0 0, .slice none 0 0, .slice none 0 0, .int .i64 0, .int .i64 0] wr) ∧ Hid (RdS wr rb (rBys j s0).2) ∧ Hid (w3.grownBy wr (some rb)) ∧ Hid (Byts (rBys j s0).2.1)) (fun i _ => 32 - (intOf i).toNat)
    case atStart => exact ⟨0, z98, by omega, rfl, HRC5, HD5, HG5, Lib.hid HYB.out.2.2⟩
    case round =>
      obtain ⟨j, arr, hj, rfl, HRC, HD, HG, HYJ⟩ := hrel
      obtain ⟨wo, rfl⟩ : ∃ wo : World, wo = wr := ⟨_, rfl⟩
      have b0 : wo.cell? ⟨bx, 0, none⟩ = some (.pointer (some ⟨rb, 0, none⟩)) := cell_of_blk (HBW.out _ HG.out) rfl
      have hbb := cell_lt b0
      by_cases hlt : j < 32
      · have HLT := Lib.hid hlt
        have HNX := Lib.hid (show rBys (j + 1) s0 = ((rBys j s0).1 ++ [(rByte (rBys j s0).2).1], (rByte (rBys j s0).2).2) from rfl)
        have HLJ := Lib.hid (rBys_len j s0)
        generalize (rBys j s0).1 = fl at *
        generalize (rBys j s0).2 = sj at *
        have HCB := Lib.hid (rdByte_any rb sj wo HD.out)
        have HYN := Lib.hid (rByte_byts HYJ.out)
        generalize (rByte sj).1 = g at *
        generalize (rByte sj).2 = sn at *
        have hji : (j : Int) < 32 := by omega
        go_wp2_with fail
        refine HCB.out.mono ?_
        rintro e w6 ⟨rfl, hg, hd⟩
        have HRC6 := Lib.hid (HRC.out.keep (hg.block CB (blk_lt HRC.out.blk) (fun e => by injection e with e; have := HRX.out; have := HW3.out; have := HBX3.out; omega)))
        have HG6 := Lib.hid (grown_trans HG.out hg)
        have HD6 := Lib.hid hd
        clear hg hd b0 hbb HCB
        have q0 : w6.cell? ⟨CB, j, none⟩ = some (.int .u8 (fl.getD j 0)) := cell_of_blk HRC6.out.blk (HRC6.out.fl j HLT.out)
        have f0 := thaw HRC6.out.blk j
        have hbq := cell_lt q0
        go_wp2_with fail
        go_roundw
        case rel => exact ⟨j + 1, _, by have := HLT.out; omega, by go_num, Lib.hid (by rw [HNX.out]; exact HRC6.out.setB j HLT.out HLJ.out g), Lib.hid (by rw [HNX.out]; exact HD6.out.keep (fun b hb => Below.heap_setCell _ _ _ _ (show b ≠ CB by have := HRX.out; have := HW3.out; have := HBX3.out; omega))), Lib.hid (grown_cells HG6.out HW3.out), Lib.hid (by rw [HNX.out]; exact HYN.out.2.2)⟩
        case measure => have := HLT.out; simp [intOf]; omega
      · obtain rfl : j = 32 := by omega
        obtain ⟨fl, HFL⟩ : ∃ fl, Hid ((rBys 32 s0).1 = fl) := ⟨_, Lib.hid rfl⟩
        obtain ⟨s1, HS1⟩ : ∃ s1, Hid ((rBys 32 s0).2 = s1) := ⟨_, Lib.hid rfl⟩
        have HL32 := Lib.hid (show fl.length = 32 by rw [← HFL.out]; exact rBys_len 32 s0)
        rw [HFL.out] at HRC
        rw [HS1.out] at HD HYJ
        have HC108 := Lib.hid (rdBytes_any rb s1 2000 wo (by omega) HD.out)
        obtain ⟨qb, HQB⟩ : ∃ qb, Hid ((rBytes 2000 s1).1 = qb) := ⟨_, Lib.hid rfl⟩
        obtain ⟨s2, HS2⟩ : ∃ s2, Hid ((rBytes 2000 s1).2 = s2) := ⟨_, Lib.hid rfl⟩
        rw [HQB.out, HS2.out] at HC108
        go_wp2_with fail
        refine HC108.out.mono ?_
        rintro e w7 ⟨⟨bv, rfl, hbo⟩, hg, hd⟩
        have HBO := Lib.hid hbo
        have HG7 := Lib.hid (grown_trans HG.out hg)
        have HD7 := Lib.hid hd
        have HRC7 := Lib.hid (HRC.out.keep (hg.block CB (blk_lt HRC.out.blk) (fun e => by injection e with e; have := HRX.out; have := HW3.out; have := HBX3.out; omega)))
        obtain ⟨bva, bvc, rfl, _⟩ := owns_shape hbo
        clear hbo hg hd b0 hbb HC108
        have HYQ := Lib.hid (show Byts qb ∧ Byts s2.1 from by rw [← HQB.out, ← HS2.out]; exact rBytes_byts 2000 HYJ.out)
        obtain ⟨q, hqe, hqc⟩ := conv_str w7 qb _ HYQ.out.1 (ByG.of_owns HBO.out)
        have HQE := Lib.hid hqe; clear hqe
        have hqc7 := hqc w7 (World.grownBy.refl _ _)
        clear hqc
        have q0 : w7.cell? ⟨CB, 32, none⟩ = some (.string (ByteArray.mk #[])) := cell_of_blk HRC7.out.blk (HRC7.out.F 0 (by decide))
        have f0 := thaw HRC7.out.blk 32
        have hbq := cell_lt q0
        go_upto_region 12 with (fail)
        have HRC8 := Lib.hid (show RdC CB _ fl [.string q, .int .i64 0, .slice none 0 0, .slice none 0 0, .slice none 0 0, .int .i64 0, .int .i64 0] (w7.setCell ⟨CB, 32, none⟩ (.string q)) from HRC7.out.setF 0 (by decide) (.string q))
        have HG8 := Lib.hid (show w3.grownBy (w7.setCell ⟨CB, 32, none⟩ (.string q)) (some rb) from grown_cells HG7.out HW3.out)
        have HD8 := Lib.hid (show RdS (w7.setCell ⟨CB, 32, none⟩ (.string q)) rb _ from HD7.out.keep (fun b hb => Below.heap_setCell _ _ _ _ (show b ≠ CB by have := HRX.out; have := HW3.out; have := HBX3.out; omega)))
        clear q0 f0 hbq
        generalize w7.setCell ⟨CB, 32, none⟩ (.string q) = w8 at *
        clear hqc7
        have HCU := Lib.hid (num106_any rb bx s2 200 w8 (by omega) (HBW.out _ HG8.out) HD8.out)
        obtain ⟨nh, HNH⟩ : ∃ ux, Hid ((rUint 200 s2).1 = ux) := ⟨_, Lib.hid rfl⟩
        obtain ⟨s3, HS3⟩ : ∃ sx, Hid ((rUint 200 s2).2 = sx) := ⟨_, Lib.hid rfl⟩
        have HYS3 := Lib.hid (show Byts s3.1 by rw [← HS3.out]; exact rUint_byts 200 HYQ.out.2)
        rw [HNH.out, HS3.out] at HCU
        go_wp2_with fail
        refine HCU.out.mono ?_
        rintro e w9 ⟨rfl, hg, hd⟩
        have HG9 := Lib.hid (grown_trans HG8.out hg)
        have HD9 := Lib.hid hd
        have HRC9 := Lib.hid (HRC8.out.keep (hg.block CB (blk_lt HRC8.out.blk) (fun e => by injection e with e; have := HRX.out; have := HW3.out; have := HBX3.out; omega)))
        clear hg hd HCU
        have q0 : w9.cell? ⟨CB, 33, none⟩ = some (.int .i64 0) := cell_of_blk HRC9.out.blk (HRC9.out.F 1 (by decide))
        have f0 := thaw HRC9.out.blk 33
        have hbq := cell_lt q0
        go_upto_region 13 with (fail)
        have HRC10 := Lib.hid (show RdC CB _ fl [.string q, .int .i64 nh, .slice none 0 0, .slice none 0 0, .slice none 0 0, .int .i64 0, .int .i64 0] (w9.setCell ⟨CB, 33, none⟩ (.int .i64 nh)) from HRC9.out.setF 1 (by decide) (.int .i64 nh))
        have HG10 := Lib.hid (show w3.grownBy (w9.setCell ⟨CB, 33, none⟩ (.int .i64 nh)) (some rb) from grown_cells HG9.out HW3.out)
        have HD10 := Lib.hid (show RdS (w9.setCell ⟨CB, 33, none⟩ (.int .i64 nh)) rb _ from HD9.out.keep (fun b hb => Below.heap_setCell _ _ _ _ (show b ≠ CB by have := HRX.out; have := HW3.out; have := HBX3.out; omega)))
        clear q0 f0 hbq
        generalize w9.setCell ⟨CB, 33, none⟩ (.int .i64 nh) = w10 at *
        have b0 : w10.cell? ⟨bx, 0, none⟩ = some (.pointer (some ⟨rb, 0, none⟩)) := cell_of_blk (HBW.out _ HG10.out) rfl
        have hbb := cell_lt b0
        have HC108 := Lib.hid (rdBytes_any rb s3 l.length w10 (by omega) HD10.out)
        obtain ⟨sb, HSB⟩ : ∃ qb, Hid ((rBytes l.length s3).1 = qb) := ⟨_, Lib.hid rfl⟩
        obtain ⟨s4, HS4⟩ : ∃ s2, Hid ((rBytes l.length s3).2 = s2) := ⟨_, Lib.hid rfl⟩
        have HYS4 := Lib.hid (show Byts sb ∧ Byts s4.1 from by rw [← HSB.out, ← HS4.out]; exact rBytes_byts l.length HYS3.out)
        have HSBL := Lib.hid (show sb.length ≤ l.length by rw [← HSB.out]; exact rBytes_le l.length s3)
        rw [HSB.out, HS4.out] at HC108
        go_wp2_with fail
        refine HC108.out.mono ?_
        rintro e w11 ⟨⟨bv, rfl, hbo⟩, hg, hd⟩
        have HBO2 := Lib.hid hbo
        have HG11 := Lib.hid (grown_trans HG10.out hg)
        have HD11 := Lib.hid hd
        have HRC11 := Lib.hid (HRC10.out.keep (hg.block CB (blk_lt HRC10.out.blk) (fun e => by injection e with e; have := HRX.out; have := HW3.out; have := HBX3.out; omega)))
        obtain ⟨bva, bvc, rfl, _⟩ := owns_shape hbo
        clear hbo hg hd b0 hbb HC108
        have HC109 := Lib.hid (read109_any _ sb _ w11 (by have := HSBL.out; omega) HYS4.out.1 (ByV.of_owns HBO2.out))
        obtain ⟨R9, HR9⟩ : ∃ R, Hid (rSet sb = R) := ⟨_, Lib.hid rfl⟩
        rw [HR9.out] at HC109
        go_wp2_with fail
        refine HC109.out.mono ?_
        rintro e w12 ⟨⟨sv, E9, rfl, hor9⟩, hb12⟩
        have HM12 := Lib.hid (more_of hb12)
        have HG12 := Lib.hid (grown_trans HG11.out (more_grown HM12.out rb))
        have HD12 := Lib.hid (show RdS w12 rb s4 from HD11.out.more HM12.out)
        have HRC12 := Lib.hid (HRC11.out.keep (HM12.out.block (blk_lt HRC11.out.blk)))
        clear hb12 HC109
        rcases hor9 with ⟨hr9, rfl, rfl⟩ | ⟨o, hr9, rfl, hset, hsi⟩
        · have HMS := Lib.hid (more_alloc w12 (.cells #[.slice none 0 0] 33))
          go_upto_region 14 with (fail)
          generalize w12.alloc (.cells #[.slice none 0 0] 33) = w13 at *
          have HG13 := Lib.hid (grown_trans HG12.out (more_grown HMS.out rb))
          have HF := Lib.hid (HFAIL.out (by unfold rCert; simp only [HK0.out, HS0.out, HS1.out, HS2.out, HS3.out, HSB.out, HR9.out, hr9]; rfl))
          have HNZ := Lib.hid (HNW.out _ HG13.out)
          go_wp2_with (first | (refine wpList_built rfl 35 _ rfl z98 z98_built ?_) | (refine wpList_store_row rfl 35 _ _ rfl N z98 rfl rfl 35 _ HNZ.out (by exact info98) (by rfl) (by kernel_rfl) ?_))
          (try simp only [Act.put, List.setIfInBounds_toArray, List.set_cons_zero, List.set_cons_succ])
          go_wp2_with fail
          have hld := ld98 (w := (w13).setRow N z98) (N := N) (arr := z98) rfl (setRow_heap _ N _ z98 35 (0, 0) HNZ.out)
          exact bodyPost_ret (v := .tuple #[.agg z98, .int .i64 6]) (results57_at hld _ (by kernel_rfl) (by kernel_rfl)) rfl ⟨⟨_, _, rfl, Or.inl ⟨rfl, rfl, HF.out⟩⟩, below_setRow (HBL.out _ HG13.out) (Nat.le_refl _) _⟩
        · obtain ⟨sa, sc, rfl, _⟩ := hset.row.shape
          have HSET := Lib.hid hset
          have HSI := Lib.hid hsi
          have HR9S := Lib.hid hr9
          clear hset hsi hr9
          have HSA := Lib.hid (alloc_last w12 (.cells #[.slice sa o.length sc] 33))
          have HMS := Lib.hid (more_alloc w12 (.cells #[.slice sa o.length sc] 33))
          go_upto_region 14 with (fail)
          generalize w12.alloc (.cells #[.slice sa o.length sc] 33) = w13 at *
          generalize w12.heap.size = SB at *
          have HG13 := Lib.hid (grown_trans HG12.out (more_grown HMS.out rb))
          have HD13 := Lib.hid (show RdS w13 rb s4 from HD12.out.more HMS.out)
          have HRC13 := Lib.hid (HRC12.out.keep (HMS.out.block (blk_lt HRC12.out.blk)))
          have t0 : w13.cell? ⟨SB, 0, none⟩ = some (.slice sa o.length sc) := cell_of_blk HSA.out rfl
          have hbt := cell_lt t0
          have q0 : w13.cell? ⟨CB, 34, none⟩ = some (.slice none 0 0) := cell_of_blk HRC13.out.blk (HRC13.out.F 2 (by decide))
          have f0 := thaw HRC13.out.blk 34
          have hbq := cell_lt q0
          go_upto_region 17 with (fail)
          clear t0 hbt
          have HST13 := Lib.hid (show SetAt (fun b => CB < b ∧ rb < b) w13 (.slice sa o.length sc) o from (HSET.out.mono (fun b hb _ => ⟨Nat.lt_of_lt_of_le (blk_lt HRC11.out.blk) hb, Nat.lt_of_lt_of_le HD11.out.lt hb⟩) (fun b _ hl => HMS.out.block hl)))
          have HST14 := Lib.hid (show SetAt (fun b => CB < b ∧ rb < b) (w13.setCell ⟨CB, 34, none⟩ (.slice sa o.length sc)) (.slice sa o.length sc) o from HST13.out.mono (fun _ hb _ => hb) (fun b hb _ => Below.heap_setCell _ _ _ _ (show b ≠ CB by have := hb.1; omega)))
          clear HST13 HSET
          have HRC14 := Lib.hid (show RdC CB _ fl [.string q, .int .i64 nh, .slice sa o.length sc, .slice none 0 0, .slice none 0 0, .int .i64 0, .int .i64 0] (w13.setCell ⟨CB, 34, none⟩ (.slice sa o.length sc)) from HRC13.out.setF 2 (by decide) (.slice sa o.length sc))
          have HG14 := Lib.hid (show w3.grownBy (w13.setCell ⟨CB, 34, none⟩ (.slice sa o.length sc)) (some rb) from grown_cells HG13.out HW3.out)
          have HD14 := Lib.hid (show RdS (w13.setCell ⟨CB, 34, none⟩ (.slice sa o.length sc)) rb _ from HD13.out.keep (fun b hb => Below.heap_setCell _ _ _ _ (show b ≠ CB by have := HRX.out; have := HW3.out; have := HBX3.out; omega)))
          clear q0 f0 hbq
          generalize w13.setCell ⟨CB, 34, none⟩ (.slice sa o.length sc) = w14 at *
          have HYs4 := Lib.hid HYS4.out.2
          have HCU := Lib.hid (num106_any rb bx s4 3 w14 (by omega) (HBW.out _ HG14.out) HD14.out)
          have HUL1 := Lib.hid (rUint_le 3 s4)
          obtain ⟨u1, HU1⟩ : ∃ ux, Hid ((rUint 3 s4).1 = ux) := ⟨_, Lib.hid rfl⟩
          obtain ⟨n1, HN1⟩ : ∃ sx, Hid ((rUint 3 s4).2 = sx) := ⟨_, Lib.hid rfl⟩
          have HYN1 := Lib.hid (show Byts n1.1 by rw [← HN1.out]; exact rUint_byts 3 HYs4.out)
          rw [HU1.out] at HCU HUL1
          rw [HN1.out] at HCU
          go_wp2_with fail
          refine HCU.out.mono ?_
          rintro e w15 ⟨rfl, hg, hd⟩
          have HG15 := Lib.hid (grown_trans HG14.out hg)
          have HD15 := Lib.hid hd
          have HRC15 := Lib.hid (HRC14.out.keep (hg.block CB (blk_lt HRC14.out.blk) (fun e => by injection e with e; have := HRX.out; have := HW3.out; have := HBX3.out; omega)))
          have HFR15 := Lib.hid (show ∀ b, b < w14.heap.size → b ≠ rb → b ≠ CB → w15.heap[b]? = w14.heap[b]? from fun b hb h1 h2 => hg.block b hb (fun e => h1 (by injection e)))
          clear hg hd HCU
          have HST15 := Lib.hid (HST14.out.mono (fun _ hb _ => hb) (fun b hb hl => HFR15.out b hl (by have := hb.2; omega) (by have := hb.1; omega)))
          obtain ⟨M, HMM⟩ : ∃ M, Hid (M = w15.heap.size) := ⟨_, Lib.hid rfl⟩
          have HCM := Lib.hid (show CB < M by rw [HMM.out]; exact blk_lt HRC15.out.blk)
          have hu1 := HUL1.out
          have HYn1 := HYN1
          obtain ⟨i0, hi0, hz0, hz1, hz2⟩ := info_parts infoK
          go_wp2_with fail
          go_loopw [49] (fun i wr => ∃ (m : Nat) (arr : Array Value) (uv : Value), m ≤ u1 ∧ i = .int .i64 m ∧ Hid (RdC CB arr fl [.string q, .int .i64 nh, .slice sa o.length sc, uv, .slice none 0 0, .int .i64 0, .int .i64 0] wr) ∧ Hid (wr.ownsRow M 53 4 uv m (flatC kC (rKeys m n1).1)) ∧ Hid (RdS wr rb (rKeys m n1).2) ∧ Hid (w3.grownBy wr (some rb)) ∧ Hid (M ≤ wr.heap.size) ∧ Hid (∀ b, b < M → b ≠ rb → b ≠ CB → wr.heap[b]? = w15.heap[b]?) ∧ Hid (Byts (rKeys m n1).2.1)) (fun i _ => u1 - (intOf i).toNat)
          case atStart => exact ⟨0, _, .slice none 0 0, Nat.zero_le _, rfl, HRC15, Lib.hid (World.ownsRow_nil _ _ _ _), HD15, HG15, Lib.hid (by rw [HMM.out]; exact Nat.le_refl _), Lib.hid (fun _ _ _ _ => rfl), HYn1⟩
          case round =>
            obtain ⟨m, arr2, uv, hm, rfl, HRC, HO, HD, HG, HMS, HFR, HYK⟩ := hrel
            obtain ⟨w16, rfl⟩ : ∃ wz : World, wz = wr := ⟨_, rfl⟩
            obtain ⟨va2, vc2, rfl, _⟩ := owns_shape HO.out
            have hu1 := HUL1.out
            have b0 : w16.cell? ⟨bx, 0, none⟩ = some (.pointer (some ⟨rb, 0, none⟩)) := cell_of_blk (HBW.out _ HG.out) rfl
            have hbb := cell_lt b0
            by_cases hlt : m < u1
            · have HLT := Lib.hid hlt
              obtain ⟨ks, HKS⟩ : ∃ ks, Hid ((rKeys m n1).1 = ks) := ⟨_, Lib.hid rfl⟩
              obtain ⟨sk, HSK⟩ : ∃ ks, Hid ((rKeys m n1).2 = ks) := ⟨_, Lib.hid rfl⟩
              rw [HKS.out] at HO
              rw [HSK.out] at HD HYK
              have HCB := Lib.hid (rdByte_any rb sk w16 HD.out)
              have HYG := Lib.hid (rByte_byts HYK.out)
              obtain ⟨g, HGB⟩ : ∃ g, Hid ((rByte sk).1 = g) := ⟨_, Lib.hid rfl⟩
              obtain ⟨sg, HSG⟩ : ∃ g, Hid ((rByte sk).2 = g) := ⟨_, Lib.hid rfl⟩
              rw [HGB.out, HSG.out] at HCB
              rw [HGB.out, HSG.out] at HYG
              have HYsg := Lib.hid HYG.out.2.2
              go_wp2_with fail
              refine HCB.out.mono ?_
              rintro e w17 ⟨rfl, hg, hd⟩
              have HG17 := Lib.hid (grown_trans HG.out hg)
              have HD17 := Lib.hid hd
              have HRC17 := Lib.hid (HRC.out.keep (hg.block CB (blk_lt HRC.out.blk) (fun e => by injection e with e; have := HRX.out; have := HW3.out; have := HBX3.out; omega)))
              have HO17 := Lib.hid (owns_keep HO.out (fun z hz => hg.block z (HO.out.lt z hz).2 (fun e => by injection e with e; have h1 := (HO.out.lt z hz).1; have := HCM.out; have := HRX.out; have := HW3.out; have := HBX3.out; omega)))
              have HMS17 := Lib.hid (Nat.le_trans HMS.out hg.size)
              have HFR17 := Lib.hid (show ∀ b, b < M → b ≠ rb → b ≠ CB → w17.heap[b]? = w15.heap[b]? from fun b hb h1 h2 => (hg.block b (Nat.lt_of_lt_of_le hb HMS.out) (fun e => h1 (by injection e))).trans (HFR.out b hb h1 h2))
              clear hg hd HCB b0 hbb
              have HKB0 := Lib.hid (alloc_last w17 (.cells #[.int .u8 g, .int .i64 0, .int .i64 0, .int .i64 0] 53))
              have HMK := Lib.hid (more_alloc w17 (.cells #[.int .u8 g, .int .i64 0, .int .i64 0, .int .i64 0] 53))
              go_upto_region 20 with (fail)
              generalize w17.alloc (.cells #[.int .u8 g, .int .i64 0, .int .i64 0, .int .i64 0] 53) = w18 at *
              obtain ⟨KB, HKE⟩ : ∃ KB, Hid (KB = w17.heap.size) := ⟨_, Lib.hid rfl⟩
              rw [← HKE.out] at HKB0 ⊢
              have HG18 := Lib.hid (grown_trans HG17.out (more_grown HMK.out rb))
              have HD18 := Lib.hid (show RdS w18 rb sg from HD17.out.more HMK.out)
              have HMKB := Lib.hid (show M ≤ KB by rw [HKE.out]; exact HMS17.out)
              have HOB := Lib.hid (show ∀ z, (Value.slice va2 m vc2).ownBlock = some z → z < KB from fun z hz => by rw [HKE.out]; exact (HO17.out.lt z hz).2)
              have HRC18 := Lib.hid (HRC17.out.keep (HMK.out.block (blk_lt HRC17.out.blk)))
              have HO18 := Lib.hid (owns_keep HO17.out (fun z hz => HMK.out.block (HO17.out.lt z hz).2))
              have HMS18 := Lib.hid (Nat.le_trans HMS17.out HMK.out.size)
              have HFR18 := Lib.hid (show ∀ b, b < M → b ≠ rb → b ≠ CB → w18.heap[b]? = w15.heap[b]? from fun b hb h1 h2 => (HMK.out.block (Nat.lt_of_lt_of_le hb HMS17.out)).trans (HFR17.out b hb h1 h2))
              have HKB18 := HKB0
              have HCU := Lib.hid (num106_any rb bx sg 2147483647 w18 (by omega) (HBW.out _ HG18.out) HD18.out)
              have HUL2 := Lib.hid (rUint_le 2147483647 sg)
              obtain ⟨u2, HU2⟩ : ∃ ux, Hid ((rUint 2147483647 sg).1 = ux) := ⟨_, Lib.hid rfl⟩
              obtain ⟨n2, HN2⟩ : ∃ sx, Hid ((rUint 2147483647 sg).2 = sx) := ⟨_, Lib.hid rfl⟩
              have HYN2 := Lib.hid (show Byts n2.1 by rw [← HN2.out]; exact rUint_byts 2147483647 HYsg.out)
              rw [HU2.out] at HCU HUL2
              rw [HN2.out] at HCU
              go_wp2_with fail
              refine HCU.out.mono ?_
              rintro e w19 ⟨rfl, hg, hd⟩
              have HG19 := Lib.hid (grown_trans HG18.out hg)
              have HD19 := Lib.hid hd
              have HRC19 := Lib.hid (HRC18.out.keep (hg.block CB (blk_lt HRC18.out.blk) (fun e => by injection e with e; have := HRX.out; have := HW3.out; have := HBX3.out; omega)))
              have HO19 := Lib.hid (owns_keep HO18.out (fun z hz => hg.block z (HO18.out.lt z hz).2 (fun e => by injection e with e; have h1 := (HO18.out.lt z hz).1; have := HCM.out; have := HRX.out; have := HW3.out; have := HBX3.out; omega)))
              have HMS19 := Lib.hid (Nat.le_trans HMS18.out hg.size)
              have HFR19 := Lib.hid (show ∀ b, b < M → b ≠ rb → b ≠ CB → w19.heap[b]? = w15.heap[b]? from fun b hb h1 h2 => (hg.block b (Nat.lt_of_lt_of_le hb HMS18.out) (fun e => h1 (by injection e))).trans (HFR18.out b hb h1 h2))
              have HKB19 := Lib.hid ((hg.block KB (blk_lt HKB18.out) (fun e => by injection e with e; have := HMKB.out; have := HCM.out; have := HRX.out; have := HW3.out; have := HBX3.out; omega)).trans HKB18.out)
              clear hg hd HCU
              have HYn2 := HYN2
              have HCU := Lib.hid (num106_any rb bx n2 2147483647 w19 (by omega) (HBW.out _ HG19.out) HD19.out)
              have HUL3 := Lib.hid (rUint_le 2147483647 n2)
              obtain ⟨u3, HU3⟩ : ∃ ux, Hid ((rUint 2147483647 n2).1 = ux) := ⟨_, Lib.hid rfl⟩
              obtain ⟨n3, HN3⟩ : ∃ sx, Hid ((rUint 2147483647 n2).2 = sx) := ⟨_, Lib.hid rfl⟩
              have HYN3 := Lib.hid (show Byts n3.1 by rw [← HN3.out]; exact rUint_byts 2147483647 HYn2.out)
              rw [HU3.out] at HCU HUL3
              rw [HN3.out] at HCU
              go_wp2_with fail
              refine HCU.out.mono ?_
              rintro e w20 ⟨rfl, hg, hd⟩
              have HG20 := Lib.hid (grown_trans HG19.out hg)
              have HD20 := Lib.hid hd
              have HRC20 := Lib.hid (HRC19.out.keep (hg.block CB (blk_lt HRC19.out.blk) (fun e => by injection e with e; have := HRX.out; have := HW3.out; have := HBX3.out; omega)))
              have HO20 := Lib.hid (owns_keep HO19.out (fun z hz => hg.block z (HO19.out.lt z hz).2 (fun e => by injection e with e; have h1 := (HO19.out.lt z hz).1; have := HCM.out; have := HRX.out; have := HW3.out; have := HBX3.out; omega)))
              have HMS20 := Lib.hid (Nat.le_trans HMS19.out hg.size)
              have HFR20 := Lib.hid (show ∀ b, b < M → b ≠ rb → b ≠ CB → w20.heap[b]? = w15.heap[b]? from fun b hb h1 h2 => (hg.block b (Nat.lt_of_lt_of_le hb HMS19.out) (fun e => h1 (by injection e))).trans (HFR19.out b hb h1 h2))
              have HKB20 := Lib.hid ((hg.block KB (blk_lt HKB19.out) (fun e => by injection e with e; have := HMKB.out; have := HCM.out; have := HRX.out; have := HW3.out; have := HBX3.out; omega)).trans HKB19.out)
              clear hg hd HCU
              have HYn3 := HYN3
              have HCU := Lib.hid (num106_any rb bx n3 2147483647 w20 (by omega) (HBW.out _ HG20.out) HD20.out)
              have HUL4 := Lib.hid (rUint_le 2147483647 n3)
              obtain ⟨u4, HU4⟩ : ∃ ux, Hid ((rUint 2147483647 n3).1 = ux) := ⟨_, Lib.hid rfl⟩
              obtain ⟨n4, HN4⟩ : ∃ sx, Hid ((rUint 2147483647 n3).2 = sx) := ⟨_, Lib.hid rfl⟩
              have HYN4 := Lib.hid (show Byts n4.1 by rw [← HN4.out]; exact rUint_byts 2147483647 HYn3.out)
              rw [HU4.out] at HCU HUL4
              rw [HN4.out] at HCU
              go_wp2_with fail
              refine HCU.out.mono ?_
              rintro e w21 ⟨rfl, hg, hd⟩
              have HG21 := Lib.hid (grown_trans HG20.out hg)
              have HD21 := Lib.hid hd
              have HRC21 := Lib.hid (HRC20.out.keep (hg.block CB (blk_lt HRC20.out.blk) (fun e => by injection e with e; have := HRX.out; have := HW3.out; have := HBX3.out; omega)))
              have HO21 := Lib.hid (owns_keep HO20.out (fun z hz => hg.block z (HO20.out.lt z hz).2 (fun e => by injection e with e; have h1 := (HO20.out.lt z hz).1; have := HCM.out; have := HRX.out; have := HW3.out; have := HBX3.out; omega)))
              have HMS21 := Lib.hid (Nat.le_trans HMS20.out hg.size)
              have HFR21 := Lib.hid (show ∀ b, b < M → b ≠ rb → b ≠ CB → w21.heap[b]? = w15.heap[b]? from fun b hb h1 h2 => (hg.block b (Nat.lt_of_lt_of_le hb HMS20.out) (fun e => h1 (by injection e))).trans (HFR20.out b hb h1 h2))
              have HKB21 := Lib.hid ((hg.block KB (blk_lt HKB20.out) (fun e => by injection e with e; have := HMKB.out; have := HCM.out; have := HRX.out; have := HW3.out; have := HBX3.out; omega)).trans HKB20.out)
              clear hg hd HCU
              have c1 : w21.cell? ⟨KB, 1, none⟩ = some (.int .i64 0) := cell_of_blk HKB21.out rfl
              have c2 : w21.cell? ⟨KB, 2, none⟩ = some (.int .i64 0) := cell_of_blk HKB21.out rfl
              have c3 : w21.cell? ⟨KB, 3, none⟩ = some (.int .i64 0) := cell_of_blk HKB21.out rfl
              have f1 := thaw HKB21.out 1
              have f2 := thaw HKB21.out 2
              have f3 := thaw HKB21.out 3
              have hbc := cell_lt c1
              go_upto_region 21 with (fail)
              clear c1 c2 c3 f1 f2 f3 hbc
              have HKB22 := Lib.hid (show (((w21.setCell ⟨KB, 1, none⟩ (.int .i64 u2)).setCell ⟨KB, 2, none⟩ (.int .i64 u3)).setCell ⟨KB, 3, none⟩ (.int .i64 u4)).heap[KB]? = some (.cells #[.int .u8 g, .int .i64 u2, .int .i64 u3, .int .i64 u4] 53) from setCell_heap (setCell_heap (setCell_heap HKB21.out)))
              have HK5 := Lib.hid (show ∀ b, b ≠ KB → (((w21.setCell ⟨KB, 1, none⟩ (.int .i64 u2)).setCell ⟨KB, 2, none⟩ (.int .i64 u3)).setCell ⟨KB, 3, none⟩ (.int .i64 u4)).heap[b]? = w21.heap[b]? from fun b hb => (Below.heap_setCell _ _ _ _ hb).trans ((Below.heap_setCell _ _ _ _ hb).trans (Below.heap_setCell _ _ _ _ hb)))
              have HW3K := Lib.hid (show w3.heap.size ≤ KB by have := HMKB.out; have := HCM.out; have := HW3.out; omega)
              have HG22 := Lib.hid (show w3.grownBy (((w21.setCell ⟨KB, 1, none⟩ (.int .i64 u2)).setCell ⟨KB, 2, none⟩ (.int .i64 u3)).setCell ⟨KB, 3, none⟩ (.int .i64 u4)) (some rb) from grown_cells (grown_cells (grown_cells HG21.out HW3K.out) HW3K.out) HW3K.out)
              have HSZ22 := Lib.hid (show (((w21.setCell ⟨KB, 1, none⟩ (.int .i64 u2)).setCell ⟨KB, 2, none⟩ (.int .i64 u3)).setCell ⟨KB, 3, none⟩ (.int .i64 u4)).heap.size = w21.heap.size from by rw [World.size_setCell, World.size_setCell, World.size_setCell])
              generalize ((w21.setCell ⟨KB, 1, none⟩ (.int .i64 u2)).setCell ⟨KB, 2, none⟩ (.int .i64 u3)).setCell ⟨KB, 3, none⟩ (.int .i64 u4) = w22 at *
              have HRC22 := Lib.hid (HRC21.out.keep (HK5.out CB (by have := HMKB.out; have := HCM.out; omega)))
              have HO22 := Lib.hid (owns_keep HO21.out (fun z hz => HK5.out z (by have := HOB.out z hz; omega)))
              have HD22 := Lib.hid (show RdS w22 rb n4 from HD21.out.keep (fun b hb => HK5.out b (by have := HW3K.out; have := HRX.out; have := HW3.out; have := HBX3.out; omega)))
              have HMS22 := Lib.hid (show M ≤ w22.heap.size by rw [HSZ22.out]; exact HMS21.out)
              have HFR22 := Lib.hid (show ∀ b, b < M → b ≠ rb → b ≠ CB → w22.heap[b]? = w15.heap[b]? from fun b hb h1 h2 => (HK5.out b (by have := HMKB.out; omega)).trans (HFR21.out b hb h1 h2))
              have HNX := Lib.hid (show rKeys (m + 1) n1 = (ks ++ [⟨g, (u2 : Nat), (u3 : Nat), (u4 : Nat)⟩], n4) from by
                  show ((rKeys m n1).1 ++ [(rKey (rKeys m n1).2).1], (rKey (rKeys m n1).2).2) = _
                  rw [HKS.out, HSK.out]
                  unfold rKey
                  simp only [HGB.out, HSG.out, HU2.out, HN2.out, HU3.out, HN3.out, HU4.out, HN4.out])
              have HKL := Lib.hid (show ks.length = m by rw [← HKS.out]; exact rKeys_len m n1)
              have c35 : w22.cell? ⟨CB, 35, none⟩ = some (.slice va2 m vc2) := cell_of_blk HRC22.out.blk (HRC22.out.F 3 (by decide))
              have hbc := cell_lt c35
              have g0 : w22.cell? ⟨KB, 0, none⟩ = some (.int .u8 g) := cell_of_blk HKB22.out rfl
              have g1 : w22.cell? ⟨KB, 1, none⟩ = some (.int .i64 u2) := cell_of_blk HKB22.out rfl
              have g2 : w22.cell? ⟨KB, 2, none⟩ = some (.int .i64 u3) := cell_of_blk HKB22.out rfl
              have g3 : w22.cell? ⟨KB, 3, none⟩ = some (.int .i64 u4) := cell_of_blk HKB22.out rfl
              have hbg := cell_lt g0
              have HR9 := Lib.hid (room32 (n := m + 1) (by have := HUL1.out; have := HLT.out; omega))
              have HMB9 := Lib.hid (more_alloc w22 (.cells #[.int .u8 g, .int .i64 u2, .int .i64 u3, .int .i64 u4] 53))
              have HOA := Lib.hid (owns_keep HO22.out (fun z hz => HMB9.out.block (HO22.out.lt z hz).2))
              have HRCA := Lib.hid (HRC22.out.keep (HMB9.out.block (blk_lt HRC22.out.blk)))
              go_wp2_with (at_builtin; refine wpList_append_lies _ rfl _ _ 24 rfl M 53 i0 _ 4 32 Tryz.underlying24 hi0 hz0 hz1 hz2 rfl (by omega) (.slice va2 m vc2) m (flatC kC ks) rfl HOA.out ⟨w22.heap.size, 0, none⟩ 1 1 [.int .u8 g, .int .i64 u2, .int .i64 u3, .int .i64 u4] rfl rfl (World.news_of_block (cs := #[.int .u8 g, .int .i64 u2, .int .i64 u3, .int .i64 u4]) (t := 53) (fr := (0, 0)) (alloc_last _ _)) (by simp [Value.oneCell']) (by omega) HR9.out.1 HR9.out.2 (by rw [World.size_alloc]; exact Nat.le_succ_of_le HMS22.out) (w22.heap.size + 1) (by simp) ?_; intro gg cap8 wB hown8 hgrow8 hat8 _; have HCC := Lib.hid (HRCA.out.keep (hgrow8.block CB (by rw [World.size_alloc]; have := blk_lt HRC22.out.blk; omega) (fun e => by have h1 := (HOA.out.lt CB e.symm).1; have := HCM.out; omega))); have dB : wB.cell? ⟨CB, 35, none⟩ = some (.slice va2 m vc2) := cell_of_blk HCC.out.blk (HCC.out.F 3 (by decide)); have fB := thaw HCC.out.blk 35; have hbB := cell_lt dB)
              have HRCF := Lib.hid (show RdC CB _ fl [.string q, .int .i64 nh, .slice sa o.length sc, .slice (some ⟨gg, 0, none⟩) (m + 1) cap8, .slice none 0 0, .int .i64 0, .int .i64 0] (wB.setCell ⟨CB, 35, none⟩ (.slice (some ⟨gg, 0, none⟩) (m + 1) cap8)) from HCC.out.setF 3 (by decide) (.slice (some ⟨gg, 0, none⟩) (m + 1) cap8))
              have HOF := Lib.hid (show (wB.setCell ⟨CB, 35, none⟩ (.slice (some ⟨gg, 0, none⟩) (m + 1) cap8)).ownsRow M 53 4 (.slice (some ⟨gg, 0, none⟩) (m + 1) cap8) (m + 1) (flatC kC (ks ++ [(⟨g, (u2 : Nat), (u3 : Nat), (u4 : Nat)⟩ : K4)])) from by
                  rw [flatC_push]
                  exact owns_keep hown8 (fun z hz => Below.heap_setCell _ _ _ _ (show z ≠ CB by have := (hown8.lt z hz).1; have := HCM.out; omega)))
              have HBB := Lib.hid (show Below M w22 wB from ((Below.refl M w22).alloc HMS22.out _).grown hgrow8 (by rw [World.size_alloc]; have := HMS22.out; omega) (fun z hz => (HOA.out.lt z hz).1))
              have HGF := Lib.hid (show w3.grownBy (wB.setCell ⟨CB, 35, none⟩ (.slice (some ⟨gg, 0, none⟩) (m + 1) cap8)) (some rb) from grown_cells (grown_belowR HG22.out (HBB.out.mono (by have := HCM.out; have := HW3.out; omega)) HBB.out.size) HW3.out)
              have HDF := Lib.hid (show RdS (wB.setCell ⟨CB, 35, none⟩ (.slice (some ⟨gg, 0, none⟩) (m + 1) cap8)) rb n4 from HD22.out.keep (fun b hb => (Below.heap_setCell _ _ _ _ (show b ≠ CB by have := HRX.out; have := HW3.out; have := HBX3.out; omega)).trans (HBB.out.block b (by have := HCM.out; have := HRX.out; have := HW3.out; have := HBX3.out; omega))))
              have HMF := Lib.hid (show M ≤ (wB.setCell ⟨CB, 35, none⟩ (.slice (some ⟨gg, 0, none⟩) (m + 1) cap8)).heap.size from by rw [World.size_setCell]; exact Nat.le_trans HMS22.out HBB.out.size)
              have HFF := Lib.hid (show ∀ b, b < M → b ≠ rb → b ≠ CB → (wB.setCell ⟨CB, 35, none⟩ (.slice (some ⟨gg, 0, none⟩) (m + 1) cap8)).heap[b]? = w15.heap[b]? from fun b hb h1 h2 => (Below.heap_setCell _ _ _ _ h2).trans ((HBB.out.block b hb).trans (HFR22.out b hb h1 h2)))
              clear hown8 hgrow8 hat8 dB fB hbB c35 hbc g0 g1 g2 g3 hbg
              have hlt9 := HLT.out
              go_wp2_with fail
              go_roundw
              case rel => exact ⟨m + 1, _, _, by have := HLT.out; omega, by go_num, HRCF, Lib.hid (by rw [HNX.out]; exact HOF.out), Lib.hid (by rw [HNX.out]; exact HDF.out), HGF, HMF, HFF, Lib.hid (by rw [HNX.out]; exact HYN4.out)⟩
              case measure => have := HLT.out; simp [intOf]; omega
            · obtain rfl : m = u1 := by omega
              clear b0 hbb hlt hm
              obtain ⟨ks, HKS⟩ : ∃ ks, Hid ((rKeys m n1).1 = ks) := ⟨_, Lib.hid rfl⟩
              obtain ⟨sU, HSU⟩ : ∃ ks, Hid ((rKeys m n1).2 = ks) := ⟨_, Lib.hid rfl⟩
              rw [HKS.out] at HO
              rw [HSU.out] at HD HYK
              have HYsU := HYK
              have HG16 := HG
              have HD16 := HD
              have HCU := Lib.hid (num106_any rb bx sU 2 w16 (by omega) (HBW.out _ HG16.out) HD16.out)
              have HUL5 := Lib.hid (rUint_le 2 sU)
              obtain ⟨u5, HU5⟩ : ∃ ux, Hid ((rUint 2 sU).1 = ux) := ⟨_, Lib.hid rfl⟩
              obtain ⟨n5, HN5⟩ : ∃ sx, Hid ((rUint 2 sU).2 = sx) := ⟨_, Lib.hid rfl⟩
              have HYN5 := Lib.hid (show Byts n5.1 by rw [← HN5.out]; exact rUint_byts 2 HYsU.out)
              rw [HU5.out] at HCU HUL5
              rw [HN5.out] at HCU
              go_wp2_with fail
              refine HCU.out.mono ?_
              rintro e w23 ⟨rfl, hg, hd⟩
              have HG23 := Lib.hid (grown_trans HG16.out hg)
              have HD23 := Lib.hid hd
              have HRC23 := Lib.hid (HRC.out.keep (hg.block CB (blk_lt HRC.out.blk) (fun e => by injection e with e; have := HRX.out; have := HW3.out; have := HBX3.out; omega)))
              have HO23 := Lib.hid (owns_keep HO.out (fun z hz => hg.block z (HO.out.lt z hz).2 (fun e => by injection e with e; have h1 := (HO.out.lt z hz).1; have := HCM.out; have := HRX.out; have := HW3.out; have := HBX3.out; omega)))
              have HMS23 := Lib.hid (Nat.le_trans HMS.out hg.size)
              have HFR23 := Lib.hid (show ∀ b, b < M → b ≠ rb → b ≠ CB → w23.heap[b]? = w15.heap[b]? from fun b hb h1 h2 => (hg.block b (Nat.lt_of_lt_of_le hb HMS.out) (fun e => h1 (by injection e))).trans (HFR.out b hb h1 h2))
              clear hg hd HCU
              have HYn5 := HYN5
              have hu5 := HUL5.out
              obtain ⟨M2, HM2E⟩ : ∃ M, Hid (M = w23.heap.size) := ⟨_, Lib.hid rfl⟩
              have HMM2 := Lib.hid (show M ≤ M2 by rw [HM2E.out]; exact HMS23.out)
              obtain ⟨i1, hi1, hy0, hy1, hy2⟩ := info_parts infoH
              go_wp2_with fail
              go_loopw [72] (fun i wr => ∃ (t : Nat) (arr : Array Value) (hv : Value) (o3 : List HV), t ≤ u5 ∧ i = .int .i64 t ∧ Hid (RdC CB arr fl [.string q, .int .i64 nh, .slice sa o.length sc, .slice va2 m vc2, hv, .int .i64 0, .int .i64 0] wr) ∧ Hid (LstH M2 wr hv o3) ∧ Hid (o3.map hoP = (rHolds t n5).1) ∧ Hid (RdS wr rb (rHolds t n5).2) ∧ Hid (w3.grownBy wr (some rb)) ∧ Hid (M2 ≤ wr.heap.size) ∧ Hid (∀ b, b < M2 → b ≠ rb → b ≠ CB → wr.heap[b]? = w23.heap[b]?) ∧ Hid (Byts (rHolds t n5).2.1)) (fun i _ => u5 - (intOf i).toNat)
              case atStart => exact ⟨0, _, .slice none 0 0, [], Nat.zero_le _, rfl, HRC23, Lib.hid ⟨World.ownsRow_nil _ _ _ _, fun p hp => (by cases hp)⟩, Lib.hid rfl, HD23, HG23, Lib.hid (by rw [HM2E.out]; exact Nat.le_refl _), Lib.hid (fun _ _ _ _ => rfl), HYn5⟩
              case round =>
                obtain ⟨t, arr3, hv, o3, ht, rfl, HRC3, HLH, HOM, HD3R, HG3R, HMS3, HFR3, HYH⟩ := hrel
                obtain ⟨w24, rfl⟩ : ∃ wz : World, wz = wr := ⟨_, rfl⟩
                obtain ⟨ha3, hc3, rfl, _⟩ := owns_shape HLH.out.own
                have hu5 := HUL5.out
                have b0 : w24.cell? ⟨bx, 0, none⟩ = some (.pointer (some ⟨rb, 0, none⟩)) := cell_of_blk (HBW.out _ HG3R.out) rfl
                have hbb := cell_lt b0
                by_cases hlt : t < u5
                · have HLT := Lib.hid hlt
                  have HON := Lib.hid (show o3.length = t by have h1 := congrArg List.length HOM.out; rw [List.length_map, rHolds_len] at h1; exact h1)
                  have HNX := Lib.hid (show rHolds (t + 1) n5 = ((rHolds t n5).1 ++ [(rHold (rHolds t n5).2).1], (rHold (rHolds t n5).2).2) from rfl)
                  have HYNX := Lib.hid (rHold_byts HYH.out)
                  generalize (rHolds t n5).1 = hs at *
                  generalize (rHolds t n5).2 = sT at *
                  have HC110 := Lib.hid (fun W (hW : More w24 W) => readHold110_any rb bx sT W ((hW.block (blk_lt (HBW.out _ HG3R.out))).trans (HBW.out _ HG3R.out)) (by have := HRX.out; omega) (show RdS W rb sT from HD3R.out.more hW))
                  generalize (rHold sT).1 = rh at *
                  generalize (rHold sT).2 = sH at *
                  have hcv := HRC3.out.F 4 (by decide)
                  have c36 : w24.cell? ⟨CB, 36, none⟩ = some (.slice ha3 t hc3) := by rw [← HON.out]; exact cell_of_blk HRC3.out.blk hcv
                  clear hcv
                  have hbc := cell_lt c36
                  have HLD := Lib.hid (more_drew w24)
                  have HR9 := Lib.hid (room48 (n := t + 1) (by have := HUL5.out; omega))
                  have b1 : w24.drew.cell? ⟨bx, 0, none⟩ = some (.pointer (some ⟨rb, 0, none⟩)) := HLD.out.cell b0
                  go_upto_region 25 with (fail)
                  go_region_law (first | (go_simp; go_at_call 36; refine (HC110.out _ HLD.out).mono ?_; rintro e wA ⟨⟨p, rfl, hpm, hpa, hat⟩, hgA, hdA⟩; obtain ⟨pv, ⟨⟨mf, mt, mn⟩, al⟩⟩ := p; obtain ⟨pa, pc, hpv, _⟩ := hat.row.shape; dsimp only at hpv hpm hpa; subst hpv; unfold hA; dsimp only; have HGA := Lib.hid (grown_any HLD.out hgA); have HDA := Lib.hid hdA; have HAT := Lib.hid hat; have HPE := Lib.hid (And.intro hpm hpa); have HCA := Lib.hid (HRC3.out.keep (HGA.out.block CB (blk_lt HRC3.out.blk) (fun e => by injection e with e; have := HRX.out; have := HW3.out; have := HBX3.out; omega))); have dA : wA.cell? ⟨CB, 36, none⟩ = some (.slice ha3 t hc3) := (by rw [← HON.out]; exact cell_of_blk HCA.out.blk (HCA.out.F 4 (by decide))); have hbA := cell_lt dA; have HLA := Lib.hid (HLH.out.keep (fun b hb hl => HGA.out.block b hl (fun e => by injection e with e; have := HCM.out; have := HMM2.out; have := HRX.out; have := HW3.out; have := HBX3.out; omega))); clear hgA hdA hat hpm hpa) | (refine step_append_lies _ (by rfl) _ _ _ (by rfl) M2 68 i1 _ 4 48 Tryz.underlying25 hi1 hy0 hy1 hy2 (by rfl) (by omega) (.slice ha3 t hc3) t (flatC hC o3) (by rfl) (by have h1 := owns_keep HLA.out.own (w' := wA.alloc (.cells #[.int .i64 mf, .int .i64 mt, .int .i64 mn, .slice pa al.length pc] 68)) (fun z hz => Below.heap_alloc wA _ _ (HLA.out.own.lt z hz).2); rw [HON.out] at h1; exact h1) ⟨wA.heap.size, 0, none⟩ 1 1 [.int .i64 mf, .int .i64 mt, .int .i64 mn, .slice pa al.length pc] (by rfl) (by rfl) (World.news_of_block (cs := #[.int .i64 mf, .int .i64 mt, .int .i64 mn, .slice pa al.length pc]) (t := 68) (fr := (0, 0)) (alloc_last _ _)) (by simp [Value.oneCell']) (by omega) HR9.out.1 HR9.out.2 (by rw [World.size_alloc]; exact Nat.le_succ_of_le (Nat.le_trans HMS3.out HGA.out.size)) (wA.heap.size + 1) (by simp) ?_; intro gg cap8 wB hownB hgrowB hatB _; have HCB := Lib.hid ((HCA.out.keep (Below.heap_alloc wA (.cells #[.int .i64 mf, .int .i64 mt, .int .i64 mn, .slice pa al.length pc] 68) _ (blk_lt HCA.out.blk))).keep (hgrowB.block CB (by rw [World.size_alloc]; have := blk_lt HCA.out.blk; omega) (fun e => by have h1 := (HLA.out.own.lt CB (by rw [HON.out]; exact e.symm)).1; have := HCM.out; have := HMM2.out; omega))); have dB : wB.cell? ⟨CB, 36, none⟩ = some (.slice ha3 t hc3) := (by rw [← HON.out]; exact cell_of_blk HCB.out.blk (HCB.out.F 4 (by decide))); have fB := thaw HCB.out.blk 36; have hbB := cell_lt dB))
                  all_goals
                    have HRCF := Lib.hid (show RdC CB _ fl [.string q, .int .i64 nh, .slice sa o.length sc, .slice va2 m vc2, .slice (some ⟨gg, 0, none⟩) (t + 1) cap8, .int .i64 0, .int .i64 0] (wB.setCell ⟨CB, 36, none⟩ (.slice (some ⟨gg, 0, none⟩) (t + 1) cap8)) from HCB.out.setF 4 (by decide) (.slice (some ⟨gg, 0, none⟩) (t + 1) cap8))
                    have HAL := Lib.hid (show LstH M2 (wA.alloc (.cells #[.int .i64 mf, .int .i64 mt, .int .i64 mn, .slice pa al.length pc] 68)) (.slice ha3 o3.length hc3) o3 from HLA.out.keep (fun b _ hl => Below.heap_alloc wA _ _ hl))
                    have HLF := Lib.hid (show LstH M2 (wB.setCell ⟨CB, 36, none⟩ (.slice (some ⟨gg, 0, none⟩) (t + 1) cap8)) (.slice (some ⟨gg, 0, none⟩) (t + 1) cap8) (o3 ++ [((.slice pa al.length pc, ⟨⟨mf, mt, mn⟩, al⟩) : HV)]) from (HAL.out.push (p := (.slice pa al.length pc, ⟨⟨mf, mt, mn⟩, al⟩)) (w' := wB) (v' := .slice (some ⟨gg, 0, none⟩) (t + 1) cap8) ((HAT.out.mono (fun b hb hl => ⟨by have h1 : w24.heap.size ≤ b ∨ True := Or.inr trivial; exact Nat.le_trans HMS3.out (Nat.le_trans HLD.out.size hb), fun e => by have h1 := (HLH.out.own.lt b e).2; have h2 : w24.heap.size ≤ b := Nat.le_trans HLD.out.size hb; omega⟩) (fun _ _ _ => rfl)).mono (fun _ hb _ => hb) (fun b _ hl => Below.heap_alloc wA _ _ hl)) (by rw [HON.out]; exact hownB) (by rw [HON.out]; exact hgrowB) (fun z hz => by
                        have hzg : gg = z := by injection hz
                        subst hzg
                        rw [HON.out]
                        rcases hatB with h | h
                        · exact Or.inl h
                        · exact Or.inr (by rw [h, World.size_alloc]; exact Nat.le_refl _))).keep (fun b hb _ => Below.heap_setCell _ _ _ _ (show b ≠ CB by have := HCM.out; have := HMM2.out; omega)))
                    have HBB := Lib.hid (show Below M2 wA wB from ((Below.refl M2 wA).alloc (Nat.le_trans HMS3.out HGA.out.size) _).grown hgrowB (by rw [World.size_alloc]; exact Nat.le_succ_of_le (Nat.le_trans HMS3.out HGA.out.size)) (fun z hz => (HLA.out.own.lt z (by rw [HON.out]; exact hz)).1))
                    have HGF := Lib.hid (show w3.grownBy (wB.setCell ⟨CB, 36, none⟩ (.slice (some ⟨gg, 0, none⟩) (t + 1) cap8)) (some rb) from grown_cells (grown_belowR (grown_trans HG3R.out HGA.out) (HBB.out.mono (by have := HCM.out; have := HMM2.out; have := HW3.out; omega)) HBB.out.size) HW3.out)
                    have HDF := Lib.hid (show RdS (wB.setCell ⟨CB, 36, none⟩ (.slice (some ⟨gg, 0, none⟩) (t + 1) cap8)) rb sH from HDA.out.keep (fun b hb => (Below.heap_setCell _ _ _ _ (show b ≠ CB by have := HRX.out; have := HW3.out; have := HBX3.out; omega)).trans (HBB.out.block b (by have := HCM.out; have := HMM2.out; have := HRX.out; have := HW3.out; have := HBX3.out; omega))))
                    have HMF := Lib.hid (show M2 ≤ (wB.setCell ⟨CB, 36, none⟩ (.slice (some ⟨gg, 0, none⟩) (t + 1) cap8)).heap.size from by rw [World.size_setCell]; exact Nat.le_trans HMS3.out (Nat.le_trans HGA.out.size HBB.out.size))
                    have HFF := Lib.hid (show ∀ b, b < M2 → b ≠ rb → b ≠ CB → (wB.setCell ⟨CB, 36, none⟩ (.slice (some ⟨gg, 0, none⟩) (t + 1) cap8)).heap[b]? = w23.heap[b]? from fun b hb h1 h2 => (Below.heap_setCell _ _ _ _ h2).trans ((HBB.out.block b hb).trans ((HGA.out.block b (Nat.lt_of_lt_of_le hb HMS3.out) (fun e => h1 (by injection e))).trans (HFR3.out b hb h1 h2))))
                    have HOF := Lib.hid (hoP_push (p := (.slice pa al.length pc, ⟨⟨mf, mt, mn⟩, al⟩)) HOM.out HPE.out.1 HPE.out.2)
                    clear hownB hgrowB hatB dB fB hbB c36 hbc dA hbA b0 hbb b1
                    have hlt9 := HLT.out
                    go_wp2_with fail
                    go_roundw
                    case rel => exact ⟨t + 1, _, _, _, by have := HLT.out; omega, by go_num, HRCF, HLF, Lib.hid (by rw [HNX.out]; exact HOF.out), Lib.hid (by rw [HNX.out]; exact HDF.out), HGF, HMF, HFF, Lib.hid (by rw [HNX.out]; exact HYNX.out)⟩
                    case measure => have := HLT.out; simp [intOf]; omega
                · obtain rfl : t = u5 := by omega
                  clear b0 hbb hlt ht
                  obtain ⟨hs, HHS⟩ : ∃ ks, Hid ((rHolds t n5).1 = ks) := ⟨_, Lib.hid rfl⟩
                  obtain ⟨sT, HSTT⟩ : ∃ ks, Hid ((rHolds t n5).2 = ks) := ⟨_, Lib.hid rfl⟩
                  have HH64 := Lib.hid (rHolds_64 HYn5.out t).1
                  rw [HHS.out] at HOM HH64
                  rw [HSTT.out] at HD3R HYH
                  have HYsT := HYH
                  have HG24 := HG3R
                  have HD24 := HD3R
                  have HCU := Lib.hid (num106_any rb bx sT 2 w24 (by omega) (HBW.out _ HG24.out) HD24.out)
                  have HUL6 := Lib.hid (rUint_le 2 sT)
                  obtain ⟨u6, HU6⟩ : ∃ ux, Hid ((rUint 2 sT).1 = ux) := ⟨_, Lib.hid rfl⟩
                  obtain ⟨n6, HN6⟩ : ∃ sx, Hid ((rUint 2 sT).2 = sx) := ⟨_, Lib.hid rfl⟩
                  have HYN6 := Lib.hid (show Byts n6.1 by rw [← HN6.out]; exact rUint_byts 2 HYsT.out)
                  rw [HU6.out] at HCU HUL6
                  rw [HN6.out] at HCU
                  go_wp2_with fail
                  refine HCU.out.mono ?_
                  rintro e w25 ⟨rfl, hg, hd⟩
                  have HG25 := Lib.hid (grown_trans HG24.out hg)
                  have HD25 := Lib.hid hd
                  have HRC25 := Lib.hid (HRC3.out.keep (hg.block CB (blk_lt HRC3.out.blk) (fun e => by injection e with e; have := HRX.out; have := HW3.out; have := HBX3.out; omega)))
                  have HFR25 := Lib.hid (show ∀ b, b < w24.heap.size → b ≠ rb → w25.heap[b]? = w24.heap[b]? from fun b hb h1 => hg.block b hb (fun e => h1 (by injection e)))
                  have HSZ25 := Lib.hid hg.size
                  clear hg hd HCU
                  have HYn6 := HYN6
                  have HCU := Lib.hid (num106_any rb bx n6 200 w25 (by omega) (HBW.out _ HG25.out) HD25.out)
                  have HUL7 := Lib.hid (rUint_le 200 n6)
                  obtain ⟨u7, HU7⟩ : ∃ ux, Hid ((rUint 200 n6).1 = ux) := ⟨_, Lib.hid rfl⟩
                  obtain ⟨n7, HN7⟩ : ∃ sx, Hid ((rUint 200 n6).2 = sx) := ⟨_, Lib.hid rfl⟩
                  have HYN7 := Lib.hid (show Byts n7.1 by rw [← HN7.out]; exact rUint_byts 200 HYn6.out)
                  rw [HU7.out] at HCU HUL7
                  rw [HN7.out] at HCU
                  go_wp2_with fail
                  refine HCU.out.mono ?_
                  rintro e w26 ⟨rfl, hg, hd⟩
                  have HG26 := Lib.hid (grown_trans HG25.out hg)
                  have HD26 := Lib.hid hd
                  have HRC26 := Lib.hid (HRC25.out.keep (hg.block CB (blk_lt HRC25.out.blk) (fun e => by injection e with e; have := HRX.out; have := HW3.out; have := HBX3.out; omega)))
                  have HFR26 := Lib.hid (show ∀ b, b < w24.heap.size → b ≠ rb → w26.heap[b]? = w24.heap[b]? from fun b hb h1 => (hg.block b (Nat.lt_of_lt_of_le hb HSZ25.out) (fun e => h1 (by injection e))).trans (HFR25.out b hb h1))
                  clear hg hd HCU
                  have c37 : w26.cell? ⟨CB, 37, none⟩ = some (.int .i64 0) := cell_of_blk HRC26.out.blk (HRC26.out.F 5 (by decide))
                  have c38 : w26.cell? ⟨CB, 38, none⟩ = some (.int .i64 0) := cell_of_blk HRC26.out.blk (HRC26.out.F 6 (by decide))
                  have f7 := thaw HRC26.out.blk 37
                  have f8 := thaw HRC26.out.blk 38
                  have hb7 := cell_lt c37
                  go_upto_region 28 with (fail)
                  clear c37 c38 f7 f8 hb7
                  have HRC27 := Lib.hid (show RdC CB _ fl [.string q, .int .i64 nh, .slice sa o.length sc, .slice va2 m vc2, .slice ha3 o3.length hc3, .int .i64 u6, .int .i64 u7] ((w26.setCell ⟨CB, 37, none⟩ (.int .i64 u6)).setCell ⟨CB, 38, none⟩ (.int .i64 u7)) from (HRC26.out.setF 5 (by decide) (.int .i64 u6)).setF 6 (by decide) (.int .i64 u7))
                  have HK27 := Lib.hid (show ∀ b, b ≠ CB → ((w26.setCell ⟨CB, 37, none⟩ (.int .i64 u6)).setCell ⟨CB, 38, none⟩ (.int .i64 u7)).heap[b]? = w26.heap[b]? from fun b hb => (Below.heap_setCell _ _ _ _ hb).trans (Below.heap_setCell _ _ _ _ hb))
                  have HG27 := Lib.hid (show w3.grownBy ((w26.setCell ⟨CB, 37, none⟩ (.int .i64 u6)).setCell ⟨CB, 38, none⟩ (.int .i64 u7)) (some rb) from grown_cells (grown_cells HG26.out HW3.out) HW3.out)
                  have HD27 := Lib.hid (show RdS ((w26.setCell ⟨CB, 37, none⟩ (.int .i64 u6)).setCell ⟨CB, 38, none⟩ (.int .i64 u7)) rb n7 from HD26.out.keep (fun b hb => HK27.out b (show b ≠ CB by have := HRX.out; have := HW3.out; have := HBX3.out; omega)))
                  generalize (w26.setCell ⟨CB, 37, none⟩ (.int .i64 u6)).setCell ⟨CB, 38, none⟩ (.int .i64 u7) = w27 at *
                  generalize ((arr3.setIfInBounds (32 + 5) (Value.int .i64 u6)).setIfInBounds (32 + 6) (Value.int .i64 u7)) = A at *
                  have HCN := Lib.hid (show N < CB by have := HW3.out; have := HBX3.out; have := HRX.out; have := HNB.out; omega)
                  have HFRZ := Lib.hid (show ∀ b, b < w24.heap.size → b ≠ rb → b ≠ CB → w27.heap[b]? = w24.heap[b]? from fun b hb h1 h2 => (HK27.out b h2).trans (HFR26.out b hb h1))
                  have HMZ := Lib.hid (show M ≤ w24.heap.size from Nat.le_trans HMM2.out HMS3.out)
                  have HKL := Lib.hid (show ks.length = m by rw [← HKS.out]; exact rKeys_len m n1)
                  have HON := Lib.hid (show o3.length = t by have h1 := congrArg List.length HOM.out; rw [List.length_map, ← HHS.out, rHolds_len] at h1; exact h1)
                  have HFRY := Lib.hid (show ∀ b, b < M → b ≠ rb → b ≠ CB → w27.heap[b]? = w15.heap[b]? from fun b hb h1 h2 => (HFRZ.out b (Nat.lt_of_lt_of_le hb HMZ.out) h1 h2).trans ((HFR3.out b (Nat.lt_of_lt_of_le hb HMM2.out) h1 h2).trans (HFR23.out b hb h1 h2)))
                  have HSETZ := Lib.hid (show SetAt (fun b => N < b) w27 (.slice sa o.length sc) o from HST15.out.mono (fun b hb _ => Nat.lt_trans HCN.out hb.1) (fun b hb hl => HFRY.out b (by rw [HMM.out]; exact hl) (by have := hb.2; omega) (by have := hb.1; omega)))
                  have HUNDZ := Lib.hid (show Row (fun b => N < b) w27 4 m (.slice va2 m vc2) (flatC kC ks) from (Row.of_owns (owns_keep HO23.out (fun z hz => (HFRZ.out z (Nat.lt_of_lt_of_le (HO23.out.lt z hz).2 (by rw [← HM2E.out]; exact HMS3.out)) (by have h1 := (HO23.out.lt z hz).1; have := HCM.out; have := HRX.out; have := HW3.out; have := HBX3.out; omega) (by have h1 := (HO23.out.lt z hz).1; have := HCM.out; omega)).trans (HFR3.out z (by rw [HM2E.out]; exact (HO23.out.lt z hz).2) (by have h1 := (HO23.out.lt z hz).1; have := HCM.out; have := HRX.out; have := HW3.out; have := HBX3.out; omega) (by have h1 := (HO23.out.lt z hz).1; have := HCM.out; omega))))).mono (fun b hb => by have h1 : M ≤ b := hb; have := HCM.out; have := HCN.out; omega) (fun _ _ _ _ h => h))
                  have HLHZ := Lib.hid (HLH.out.keep (w' := w27) (fun b hb hl => HFRZ.out b hl (by have := HMM2.out; have := HCM.out; have := HRX.out; have := HW3.out; have := HBX3.out; omega) (by have := HMM2.out; have := HCM.out; omega)))
                  have HHOLZ := Lib.hid (show Row (fun b => N < b) w27 4 o3.length (.slice ha3 o3.length hc3) (flatC hC o3) from (Row.of_owns HLHZ.out.own).mono (fun b hb => by have h1 : M2 ≤ b := hb; have := HMM2.out; have := HCM.out; have := HCN.out; omega) (fun _ _ _ _ h => h))
                  have HEACHZ := Lib.hid (show ∀ p ∈ o3, HAt (fun b => N < b) w27 p from fun p hp => (HLHZ.out.ent p hp).mono (fun b hb _ => by have h1 := hb.1; have := HMM2.out; have := HCM.out; have := HCN.out; omega) (fun _ _ _ => rfl))
                  have HRE := Lib.hid (rCert_eq HK0.out HS0.out HFL.out HS1.out HQB.out HS2.out HNH.out HS3.out HSB.out HS4.out (HR9.out.trans HR9S.out) HU1.out HN1.out HKS.out HSU.out HU5.out HN5.out HHS.out HSTT.out HU6.out HN6.out HU7.out HN7.out)
                  obtain ⟨c, HC⟩ : ∃ c : Cert, Hid (c = ⟨q, nh, .slice sa o.length sc, o, .slice va2 m vc2, ks, .slice ha3 o3.length hc3, o3, u6, u7⟩) := ⟨_, Lib.hid rfl⟩
                  have HRF := Lib.hid (show rcOf fl c = ⟨fl, qb, nh, o.map (·.2), ks, hs, u6, u7⟩ by rw [HC.out]; unfold rcOf; rw [HQE.out, HOM.out]; rfl)
                  rw [← HRF.out] at HRE
                  have HCS := Lib.hid (show CertS (fun b => N < b) w27 A c by
                    rw [HC.out]
                    exact ⟨HRC27.out.size, HRC27.out.F 0 (by decide), HRC27.out.F 1 (by decide), HRC27.out.F 2 (by decide), HRC27.out.F 3 (by decide), HRC27.out.F 4 (by decide), HRC27.out.F 5 (by decide), HRC27.out.F 6 (by decide), HSETZ.out, (by show Row _ w27 4 ks.length _ _; rw [HKL.out]; exact HUNDZ.out), HHOLZ.out, HEACHZ.out, (by show ks.length ≤ 16; rw [HKL.out]; have := HUL1.out; omega), (by show o3.length ≤ 16; rw [HON.out]; have := HUL5.out; omega)⟩)
                  have HP0 := Lib.hid (show 0 ≤ c.hor ∧ 0 ≤ c.wit ∧ 0 ≤ c.spl by rw [HC.out]; exact ⟨Int.natCast_nonneg _, Int.natCast_nonneg _, Int.natCast_nonneg _⟩)
                  have HCI := Lib.hid (show (∀ p ∈ c.S, ∀ n ∈ p.2.l, In64 n) by rw [HC.out]; exact HSI.out)
                  have HCH := Lib.hid (show (∀ p ∈ c.H, ∀ a ∈ p.2.al, ∀ n ∈ a.2.l, In64 n) by rw [HC.out]; exact hoP_64 HOM.out HH64.out)
                  have HCOK := Lib.hid (show ∀ p ∈ c.S, CgOk p.2 by rw [HC.out]; exact HSETZ.out.ok)
                  have HFB := Lib.hid (show Byts fl by rw [← HFL.out]; exact (rBys_byts HYB.out.2.2 32).1)
                  have HFA := Lib.hid (show ∀ (j : Nat) (n : Int), fl[j]? = some n → A[j]? = some (.int .u8 n) from fun j n hj => by
                    have h1 : j < 32 := by rw [← HL32.out]; exact (List.getElem?_eq_some_iff.1 hj).1
                    rw [HRC27.out.fl j h1, List.getD_eq_getElem?_getD, hj]
                    rfl)
                  have HFI := Lib.hid HRC27.out.fl
                  have HBK := Lib.hid HRC27.out.blk
                  have HSZA := Lib.hid HRC27.out.size
                  have HCE := Lib.hid (rdEnd_any rb n7 w27 HD27.out)
                  obtain ⟨E0, HE0⟩ : ∃ E, Hid (rEnd n7 = E) := ⟨_, Lib.hid rfl⟩
                  rw [HE0.out] at HCE HRE
                  clear HSETZ HUNDZ HHOLZ HEACHZ HLHZ HRF HKL HON HOM HHS HSTT HU5 HN5 HU6 HN6 HU7 HN7 HU1 HN1 HKS HSU HRC HRC3 HRC25 HRC26 HRC27 HO HO23 HLH HST15 HST14 HFRZ HFRY HFR3 HFR23 HFR25 HFR26 HK27 HC
                  have b0 : w27.cell? ⟨bx, 0, none⟩ = some (.pointer (some ⟨rb, 0, none⟩)) := cell_of_blk (HBW.out _ HG27.out) rfl
                  have hbb := cell_lt b0
                  go_wp2_with fail
                  refine HCE.out.mono ?_
                  rintro e wx ⟨rfl, hwx⟩
                  subst hwx
                  clear b0 hbb HCE
                  by_cases h0 : E0 = 0
                  rotate_left
                  · have hne : (E0 != 0) = true := by rw [bne_iff_ne]; exact h0
                    have HNX := Lib.hid (show rCert l = none by rw [HRE.out, if_neg h0])
                    clear h0
                    have HF := Lib.hid (HFAIL.out (HNX.out))
                    have HNZ := Lib.hid (HNW.out _ HG27.out)
                    go_wp2_with (first | (refine wpList_built rfl 35 _ rfl z98 z98_built ?_) | (refine wpList_store_row rfl 35 _ _ rfl N z98 rfl rfl 35 _ HNZ.out (by exact info98) (by rfl) (by kernel_rfl) ?_))
                    (try simp only [Act.put, List.setIfInBounds_toArray, List.set_cons_zero, List.set_cons_succ])
                    go_wp2_with fail
                    have hld := ld98 (w := (wx).setRow N z98) (N := N) (arr := z98) rfl (setRow_heap _ N _ z98 35 (0, 0) HNZ.out)
                    exact bodyPost_ret (v := .tuple #[.agg z98, .int .i64 6]) (results57_at hld _ (by kernel_rfl) (by kernel_rfl)) rfl ⟨⟨_, _, rfl, Or.inl ⟨rfl, rfl, HF.out⟩⟩, below_setRow (HBL.out _ HG27.out) (Nat.le_refl _) _⟩
                  · subst h0
                    rw [if_pos rfl] at HRE
                    have HC50 := Lib.hid (check50_any A c wx (HCS.out.cert (fun _ _ _ => rfl)))
                    go_wp2_with (refine wpList_load98g (by kernel_rfl) _ rfl CB rfl A HBK.out HSZA.out ?_)
                    refine HC50.out.mono ?_
                    rintro e w28 ⟨⟨E, rfl, hE⟩, hb28⟩
                    have HM28 := Lib.hid (more_of hb28)
                    have HG28 := Lib.hid (grown_trans HG27.out (more_grown HM28.out rb))
                    have HE := Lib.hid hE
                    clear hE hb28 HC50
                    by_cases hE0 : E = 0
                    rotate_left
                    · have hne : (E != 0) = true := by rw [bne_iff_ne]; exact hE0
                      have HNX := Lib.hid (noCert_chk HRE.out HP0.out.1 HP0.out.2.1 HP0.out.2.2 (fun k => hE0 (HE.out.same k)))
                      clear hE0
                      have HF := Lib.hid (HNX.out)
                      have HNZ := Lib.hid (HNW.out _ HG28.out)
                      go_wp2_with (first | (refine wpList_built rfl 35 _ rfl z98 z98_built ?_) | (refine wpList_store_row rfl 35 _ _ rfl N z98 rfl rfl 35 _ HNZ.out (by exact info98) (by rfl) (by kernel_rfl) ?_))
                      (try simp only [Act.put, List.setIfInBounds_toArray, List.set_cons_zero, List.set_cons_succ])
                      go_wp2_with fail
                      have hld := ld98 (w := (w28).setRow N z98) (N := N) (arr := z98) rfl (setRow_heap _ N _ z98 35 (0, 0) HNZ.out)
                      exact bodyPost_ret (v := .tuple #[.agg z98, .int .i64 6]) (results57_at hld _ (by kernel_rfl) (by kernel_rfl)) rfl ⟨⟨_, _, rfl, Or.inl ⟨rfl, rfl, HF.out⟩⟩, below_setRow (HBL.out _ HG28.out) (Nat.le_refl _) _⟩
                    · subst hE0
                      have HC56 := Lib.hid (bytes56_ok A c fl w28 (HCS.out.cert (fun b _ hl => HM28.out.block hl)) HL32.out HFA.out HCI.out HCH.out HE.out)
                      go_wp2_with (refine wpList_load98g (by kernel_rfl) _ rfl CB rfl A ((HM28.out.block (blk_lt HBK.out)).trans HBK.out) HSZA.out ?_)
                      refine HC56.out.mono ?_
                      rintro e w29 ⟨⟨bv, rfl, hbo⟩, hb29⟩
                      have HM29 := Lib.hid (more_trans HM28.out (more_of hb29))
                      have HG29 := Lib.hid (grown_trans HG28.out (more_grown (more_of hb29) rb))
                      have HC112 := Lib.hid (equal112_any (encCt fl c) l bv (.slice va l.length vcap) w29 (encCt_byts HFB.out HCOK.out HE.out) HY.out (ByG.of_owns hbo) ⟨(HVR.out.below (by rw [← HN.out]; exact HBL.out _ HG29.out)).mono (fun _ _ => trivial) (fun _ _ _ _ h => h), HVN.out⟩)
                      obtain ⟨ba, bc, rfl, _⟩ := owns_shape hbo
                      clear hbo hb29 HC56
                      go_wp2_with fail
                      refine HC112.out.mono ?_
                      rintro e wy ⟨rfl, hwy⟩
                      subst hwy
                      clear HC112
                      by_cases he : encCt fl c = l
                      rotate_left
                      · have HNX := Lib.hid (noCert_enc HRE.out he)
                        have hde : decide (encCt fl c = l) = false := decide_eq_false he
                        rw [hde]
                        clear hde he
                        have HF := Lib.hid (HNX.out)
                        have HNZ := Lib.hid (HNW.out _ HG29.out)
                        go_wp2_with (first | (refine wpList_built rfl 35 _ rfl z98 z98_built ?_) | (refine wpList_store_row rfl 35 _ _ rfl N z98 rfl rfl 35 _ HNZ.out (by exact info98) (by rfl) (by kernel_rfl) ?_))
                        (try simp only [Act.put, List.setIfInBounds_toArray, List.set_cons_zero, List.set_cons_succ])
                        go_wp2_with fail
                        have hld := ld98 (w := (wy).setRow N z98) (N := N) (arr := z98) rfl (setRow_heap _ N _ z98 35 (0, 0) HNZ.out)
                        exact bodyPost_ret (v := .tuple #[.agg z98, .int .i64 6]) (results57_at hld _ (by kernel_rfl) (by kernel_rfl)) rfl ⟨⟨_, _, rfl, Or.inl ⟨rfl, rfl, HF.out⟩⟩, below_setRow (HBL.out _ HG29.out) (Nat.le_refl _) _⟩
                      · have HEE := Lib.hid he
                        have hde : decide (encCt fl c = l) = true := decide_eq_true he
                        rw [hde]
                        clear hde he
                        have HNZ := Lib.hid (HNW.out _ HG29.out)
                        have HON1 := Lib.hid (HCS.out.ones (fun i hi => ⟨_, HFI.out i hi⟩))
                        have HBK2 := Lib.hid ((HM29.out.block (blk_lt HBK.out)).trans HBK.out)
                        go_wp2_with (first | (refine wpList_load98 rfl _ rfl CB rfl A HBK2.out HSZA.out ?_) | (refine wpList_store_row rfl 35 _ _ rfl N A rfl rfl 35 _ HNZ.out (by rw [HSZA.out]; exact info98) (by rw [HSZA.out]; rfl) HON1.out ?_))
                        (try simp only [Act.put, List.setIfInBounds_toArray, List.set_cons_zero, List.set_cons_succ])
                        go_wp2_with fail
                        have hld := ld98 (w := wy.setRow N A) (N := N) (arr := A) HSZA.out (setRow_heap _ N _ A 35 (0, 0) HNZ.out)
                        exact bodyPost_ret (v := .tuple #[.agg A, .int .i64 0]) (results57_at hld _ (by kernel_rfl) (by kernel_rfl)) rfl ⟨⟨_, _, rfl, Or.inr ⟨rfl, fl, c, HL32.out, HCS.out.cert (fun b hb hl => (setRow_other _ _ _ _ (show b ≠ N by omega)).trans (HM29.out.block hl)), HFI.out, HCI.out, HCH.out, HE.out, HEE.out⟩⟩, below_setRow (HBL.out _ HG29.out) (Nat.le_refl _) _⟩
  · have hk2 : (k0 != 1) = true := by simpa using hk1
    have HF := Lib.hid (HFAIL.out (by unfold rCert; dsimp only; rw [HK0.out, if_neg hk1]))
    have HNZ := Lib.hid (HNW.out _ HG4.out)
    go_wp2_with (first | (refine wpList_built rfl 35 _ rfl z98 z98_built ?_) | (refine wpList_store_row rfl 35 _ _ rfl N z98 rfl rfl 35 _ HNZ.out (by exact info98) (by rfl) (by kernel_rfl) ?_))
    (try simp only [Act.put, List.setIfInBounds_toArray, List.set_cons_zero, List.set_cons_succ])
    go_wp2_with fail
    have hld := ld98 (w := (w4).setRow N z98) (N := N) (arr := z98) rfl (setRow_heap _ N _ z98 35 (0, 0) HNZ.out)
    exact bodyPost_ret (v := .tuple #[.agg z98, .int .i64 6]) (results57_at hld _ (by kernel_rfl) (by kernel_rfl)) rfl ⟨⟨_, _, rfl, Or.inl ⟨rfl, rfl, HF.out⟩⟩, below_setRow (HBL.out _ HG4.out) (Nat.le_refl _) _⟩
end Go.Proofs.YtemeppfikpafbaaGreatDoor

