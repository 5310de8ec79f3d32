/- Texts TolG, laid together. -/
import Derived.Deep.MidRow
import Derived.Test.YtemeppfikpafbaaRt
/- rootcauselaw50.told (52). -/
namespace Go.Proofs.Ytemeppfikpafbaa
open Go.RowKit
theorem info96 : (Try.prog.info? 96).map (·.size) = some 32 := by kernel_rfl
theorem info104 : (Try.prog.info? 104).map (·.size) = some 40 := by kernel_rfl
theorem list32 {fl : List Value} (h : fl.length = 32) : ∃ a0 a1 a2 a3 a4 a5 a6 a7 a8 a9 a10 a11 a12 a13 a14 a15 a16 a17 a18 a19 a20 a21 a22 a23 a24 a25 a26 a27 a28 a29 a30 a31, fl = [a0, a1, a2, a3, a4, a5, a6, a7, a8, a9, a10, a11, a12, a13, a14, a15, a16, a17, a18, a19, a20, a21, a22, a23, a24, a25, a26, a27, a28, a29, a30, a31] := by
  match fl, h with
  | [a0, a1, a2, a3, a4, a5, a6, a7, a8, a9, a10, a11, a12, a13, a14, a15, a16, a17, a18, a19, a20, a21, a22, a23, a24, a25, a26, a27, a28, a29, a30, a31], _ => exact ⟨a0, a1, a2, a3, a4, a5, a6, a7, a8, a9, a10, a11, a12, a13, a14, a15, a16, a17, a18, a19, a20, a21, a22, a23, a24, a25, a26, a27, a28, a29, a30, a31, rfl⟩
theorem built104 {fl : List Value} (h : fl.length = 32) (q : ByteArray) (hor wit spl : Int) (xa ya ua ha : Option Addr) (xl xc yl yc ul uc hl hc : Nat) : Try.prog.built 104 [(0, .agg fl.toArray), (1, .string q), (2, .int .i64 hor), (3, .slice xa xl xc), (4, .slice ya yl yc), (5, .slice ua ul uc), (6, .slice ha hl hc), (7, .int .i64 wit), (8, .int .i64 spl)] = some (fl ++ ([.string q, .int .i64 hor, .slice xa xl xc, .slice ya yl yc, .slice ua ul uc, .slice ha hl hc, .int .i64 wit, .int .i64 spl] : List Value)).toArray := by
  obtain ⟨a0, a1, a2, a3, a4, a5, a6, a7, a8, a9, a10, a11, a12, a13, a14, a15, a16, a17, a18, a19, a20, a21, a22, a23, a24, a25, a26, a27, a28, a29, a30, a31, rfl⟩ := list32 h
  kernel_rfl
/-- told: the certificate as the specification has it. -/
theorem there_more {w w' : World} {b n : Nat} (h : w.there b 0 n) (_hn : 0 < n) (hm : More w w') : w'.there b 0 n := fun j hj => by
  obtain ⟨h1, h2⟩ := h j hj
  obtain ⟨v, hv⟩ := Option.isSome_iff_exists.1 h1
  exact ⟨by rw [hm.cell hv]; rfl, hm.frozen (cell_lt hv) h2⟩
theorem below_setRow {B g : Nat} {w w' : World} (h : Below B w w') (hB : B ≤ g) (cs : Array Value) : Below B w (w'.setRow g cs) :=
  ⟨h.os, h.tape, h.output, by rw [setRow_size]; exact h.size, fun k hk => (setRow_other _ _ _ _ (by omega)).trans (h.block k hk)⟩
theorem HAt.below {w w' : World} {p : HV} (h : HAt anyB w p) (hb : Below w.heap.size w w') : HAt anyB w' p := h.more (more_of hb)
set_option maxRecDepth 100000 in
set_option maxHeartbeats 8000000 in
theorem told52_any (arr : Array Value) (c : Cert) (w : World) (hc : CertAt w arr c) (h8 : ∀ i, i < 32 → ∃ n : Int, arr[i]? = some (.int .u8 n)) (hi : ∀ p ∈ c.S, ∀ n ∈ p.2.l, In64 n) :
    Calls Try.prog 52 #[.agg arr] w fun e w' => (∃ arr' kv, e = .returned (.agg arr') ∧ RefAt w' arr' c kv ∧ (∀ i, i < 32 → arr'[i]? = arr[i]?)) ∧ Below w.heap.size w w' := by
  obtain ⟨q, hor, sv, Sl, uv, U, hv, H, wit, spl⟩ := c
  have HC := Lib.hid hc
  have HI := Lib.hid hi; clear hi
  obtain ⟨hsz, hq32, h33, h34, h35, h36, h37, h38, hset, hund, hhol, heach, hul, hhl⟩ := hc
  dsimp only at *
  obtain ⟨ua, uc, rfl, _⟩ := hund.shape
  obtain ⟨ha, hcp, rfl, _⟩ := hhol.shape
  obtain ⟨sa, sc, rfl, _⟩ := hset.row.shape
  clear hset hund hhol heach hul hhl
  obtain ⟨fl, hfle⟩ : ∃ fl : List Value, fl = arr.toList.take 32 := ⟨_, rfl⟩
  have hfl : fl.length = 32 := by rw [hfle, List.length_take, Array.length_toList, hsz]; rfl
  have hfr : ∀ j v, fl[j]? = some v → arr[j]? = some v := fun j v h => by
    have hj : j < 32 := by rw [← hfl]; exact (List.getElem?_eq_some_iff.1 h).1
    rw [hfle, List.getElem?_take_of_lt hj, Array.getElem?_toList] at h
    exact h
  have hf1 : ∀ v ∈ fl, v.oneCell' = true := fun v hv => by
    obtain ⟨j, hj, e⟩ := List.getElem_of_mem hv
    obtain ⟨n, hn⟩ := h8 j (by omega)
    have h1 := hfr j fl[j] (List.getElem?_eq_getElem hj)
    rw [hn, e] at h1
    cases h1; rfl
  have HFL := Lib.hid hfl
  have HFR := Lib.hid hfr; clear hfr
  have HF1 := Lib.hid hf1; clear hf1
  clear hfle h8 hfl
  obtain ⟨N, HN⟩ : ∃ N, Hid (N = w.heap.size) := ⟨_, Lib.hid rfl⟩
  obtain ⟨hB, hR, hML⟩ := boxed2 w (.cells arr 98) (.cells #[.int .u8 0, .int .u8 0, .int .u8 0, .int .u8 0, .int .u8 0, .int .u8 0, .int .u8 0, .int .u8 0, .int .u8 0, .int .u8 0, .int .u8 0, .int .u8 0, .int .u8 0, .int .u8 0, .int .u8 0, .int .u8 0, .int .u8 0, .int .u8 0, .int .u8 0, .int .u8 0, .int .u8 0, .int .u8 0, .int .u8 0, .int .u8 0, .int .u8 0, .int .u8 0, .int .u8 0, .int .u8 0, .int .u8 0, .int .u8 0, .int .u8 0, .int .u8 0, .string (ByteArray.mk #[]), .int .i64 0, .slice none 0 0, .slice none 0 0, .slice none 0 0, .slice none 0 0, .int .i64 0, .int .i64 0] 104)
  have HB := Lib.hid hB; have HR := Lib.hid hR; have HM1 := Lib.hid hML.1
  clear hB hR hML
  rw [← HN.out] at HB HR ⊢
  go_enter Try.func52, Try.ntmps52
  go_upto_region 1 with (fail)
  rw [← HN.out]
  generalize (w.alloc (.cells arr 98)).alloc (.cells #[.int .u8 0, .int .u8 0, .int .u8 0, .int .u8 0, .int .u8 0, .int .u8 0, .int .u8 0, .int .u8 0, .int .u8 0, .int .u8 0, .int .u8 0, .int .u8 0, .int .u8 0, .int .u8 0, .int .u8 0, .int .u8 0, .int .u8 0, .int .u8 0, .int .u8 0, .int .u8 0, .int .u8 0, .int .u8 0, .int .u8 0, .int .u8 0, .int .u8 0, .int .u8 0, .int .u8 0, .int .u8 0, .int .u8 0, .int .u8 0, .int .u8 0, .int .u8 0, .string (ByteArray.mk #[]), .int .i64 0, .slice none 0 0, .slice none 0 0, .slice none 0 0, .slice none 0 0, .int .i64 0, .int .i64 0] 104) = w1 at *
  have n32 : w1.cell? ⟨N, 32, none⟩ = some (.string q) := cell_of_blk HB.out hq32
  have n33 : w1.cell? ⟨N, 33, none⟩ = some (.int .i64 hor) := cell_of_blk HB.out h33
  have n34 : w1.cell? ⟨N, 34, none⟩ = some (.slice sa Sl.length sc) := cell_of_blk HB.out h34
  have n35 : w1.cell? ⟨N, 35, none⟩ = some (.slice ua U.length uc) := cell_of_blk HB.out h35
  have n36 : w1.cell? ⟨N, 36, none⟩ = some (.slice ha H.length hcp) := cell_of_blk HB.out h36
  have n37 : w1.cell? ⟨N, 37, none⟩ = some (.int .i64 wit) := cell_of_blk HB.out h37
  have n38 : w1.cell? ⟨N, 38, none⟩ = some (.int .i64 spl) := cell_of_blk HB.out h38
  clear hq32 h33 h34 h35 h36 h37 h38
  have hrg : w1.rangeAt N 0 fl := fun j v hv => by rw [Nat.zero_add]; exact cell_of_blk HB.out (HFR.out j v hv)
  have hbn := cell_lt n32
  have HN2 := Lib.hid (show N + 2 ≤ w1.heap.size from blk_lt HR.out)
  have HC97 := Lib.hid (fun W (hW : More w1 W) => bytes97_any Sl _ W (HC.out.set.more (more_trans HM1.out hW)) HI.out)
  have HC93 := Lib.hid (fun W (hW : More w1 W) => keys93_gen Sl _ W (HC.out.set.more (more_trans HM1.out hW)))
  have HK := Lib.hid (show ∀ W, More w1 W → (W.cell? ⟨N, 32, none⟩ = some (.string q) ∧ W.cell? ⟨N, 33, none⟩ = some (.int .i64 hor) ∧ W.cell? ⟨N, 34, none⟩ = some (.slice sa Sl.length sc) ∧ W.cell? ⟨N, 35, none⟩ = some (.slice ua U.length uc) ∧ W.cell? ⟨N, 36, none⟩ = some (.slice ha H.length hcp) ∧ W.cell? ⟨N, 37, none⟩ = some (.int .i64 wit) ∧ W.cell? ⟨N, 38, none⟩ = some (.int .i64 spl) ∧ W.rangeAt N 0 fl) from fun W h => ⟨h.cell n32, h.cell n33, h.cell n34, h.cell n35, h.cell n36, h.cell n37, h.cell n38, fun j v hv => h.cell (hrg j v hv)⟩)
  have HL := Lib.hid (more_drew w1)
  have h96u := Try.underlying96
  have h96i : (Try.prog.info? 96).map (·.size) = some fl.length := by rw [HFL.out]; exact info96
  have hbld := fun (xa ya : Option Addr) (xl xc yl yc : Nat) (W : World) => run_build (P := Try.prog) W 104 #[(0, .agg fl.toArray), (1, .string q), (2, .int .i64 hor), (3, .slice xa xl xc), (4, .slice ya yl yc), (5, .slice ua U.length uc), (6, .slice ha H.length hcp), (7, .int .i64 wit), (8, .int .i64 spl)] _ (built104 HFL.out q hor wit spl xa ya ua ha xl xc yl yc U.length uc H.length hcp)
  have HKS := Lib.hid (show ∀ (W : World) (cs : Array Value), (W.cell? ⟨N, 32, none⟩ = some (.string q) ∧ W.cell? ⟨N, 33, none⟩ = some (.int .i64 hor) ∧ W.cell? ⟨N, 34, none⟩ = some (.slice sa Sl.length sc) ∧ W.cell? ⟨N, 35, none⟩ = some (.slice ua U.length uc) ∧ W.cell? ⟨N, 36, none⟩ = some (.slice ha H.length hcp) ∧ W.cell? ⟨N, 37, none⟩ = some (.int .i64 wit) ∧ W.cell? ⟨N, 38, none⟩ = some (.int .i64 spl) ∧ W.rangeAt N 0 fl) → ((W.setRow (N + 1) cs).cell? ⟨N, 32, none⟩ = some (.string q) ∧ (W.setRow (N + 1) cs).cell? ⟨N, 33, none⟩ = some (.int .i64 hor) ∧ (W.setRow (N + 1) cs).cell? ⟨N, 34, none⟩ = some (.slice sa Sl.length sc) ∧ (W.setRow (N + 1) cs).cell? ⟨N, 35, none⟩ = some (.slice ua U.length uc) ∧ (W.setRow (N + 1) cs).cell? ⟨N, 36, none⟩ = some (.slice ha H.length hcp) ∧ (W.setRow (N + 1) cs).cell? ⟨N, 37, none⟩ = some (.int .i64 wit) ∧ (W.setRow (N + 1) cs).cell? ⟨N, 38, none⟩ = some (.int .i64 spl) ∧ (W.setRow (N + 1) cs).rangeAt N 0 fl) from fun W cs h => by
    obtain ⟨k0, k1, k2, k3, k4, k5, k6, k7⟩ := h
    refine ⟨?_, ?_, ?_, ?_, ?_, ?_, ?_, fun j v hv => ?_⟩
    · rw [cell_setRow_other W _ _ _ (by show N ≠ N + 1; omega)]; exact k0
    · rw [cell_setRow_other W _ _ _ (by show N ≠ N + 1; omega)]; exact k1
    · rw [cell_setRow_other W _ _ _ (by show N ≠ N + 1; omega)]; exact k2
    · rw [cell_setRow_other W _ _ _ (by show N ≠ N + 1; omega)]; exact k3
    · rw [cell_setRow_other W _ _ _ (by show N ≠ N + 1; omega)]; exact k4
    · rw [cell_setRow_other W _ _ _ (by show N ≠ N + 1; omega)]; exact k5
    · rw [cell_setRow_other W _ _ _ (by show N ≠ N + 1; omega)]; exact k6
    · rw [cell_setRow_other W _ _ _ (by show N ≠ N + 1; omega)]; exact k7 j v hv)
  refine wp_region_held_drew (S := fun W => W.cell? ⟨N, 32, none⟩ = some (.string q) ∧ W.cell? ⟨N, 33, none⟩ = some (.int .i64 hor) ∧ W.cell? ⟨N, 34, none⟩ = some (.slice sa Sl.length sc) ∧ W.cell? ⟨N, 35, none⟩ = some (.slice ua U.length uc) ∧ W.cell? ⟨N, 36, none⟩ = some (.slice ha H.length hcp) ∧ W.cell? ⟨N, 37, none⟩ = some (.int .i64 wit) ∧ W.cell? ⟨N, 38, none⟩ = some (.int .i64 spl) ∧ W.rangeAt N 0 fl) (by kernel_rfl) (HK.out _ HL.out) (fun hHeld => ?_)
  refine wpAnyH_take (i := 0) (v := ?_) (by simp only [List.getElem?_toArray, List.getElem?_cons_zero]; exact rfl) (by kernel_rfl) (by kernel_rfl) (by kernel_rfl) (by exact fun _ _ _ h => h) (Or.inl ⟨by kernel_rfl, ?_⟩) hHeld ?_
  rotate_left
  · intro w hSw
    (try dsimp only at hSw)
    first | (go_simp; done) | (go_simp; with_reducible rfl)
  (try simp only [Act.put, List.setIfInBounds_toArray, List.set_cons_zero, List.set_cons_succ])
  refine wpAnyH_take (i := 1) (v := .agg fl.toArray) (by simp only [List.getElem?_toArray, List.getElem?_cons_succ, List.getElem?_cons_zero]; exact rfl) (by kernel_rfl) (by kernel_rfl) (by kernel_rfl) (by exact fun _ _ _ h => h) (yieldsIf_load_mid (by kernel_rfl) 96 _ rfl N 0 rfl fl _ (fun w h => h.2.2.2.2.2.2.2) h96u rfl h96i) hHeld ?_
  (try simp only [Act.put, List.setIfInBounds_toArray, List.set_cons_zero, List.set_cons_succ])
  refine wpAnyH_take (i := 2) (v := ?_) (by simp only [List.getElem?_toArray, List.getElem?_cons_succ, List.getElem?_cons_zero]; exact rfl) (by kernel_rfl) (by kernel_rfl) (by kernel_rfl) (by exact fun _ _ _ h => h) (Or.inl ⟨by kernel_rfl, ?_⟩) hHeld ?_
  rotate_left
  · intro w hSw
    (try dsimp only at hSw)
    first | (go_simp; done) | (go_simp; with_reducible rfl)
  (try simp only [Act.put, List.setIfInBounds_toArray, List.set_cons_zero, List.set_cons_succ])
  refine wpAnyH_take (i := 3) (v := ?_) (by simp only [List.getElem?_toArray, List.getElem?_cons_succ, List.getElem?_cons_zero]; exact rfl) (by kernel_rfl) (by kernel_rfl) (by kernel_rfl) (by exact fun _ _ _ h => h) (Or.inl ⟨by kernel_rfl, ?_⟩) hHeld ?_
  rotate_left
  · intro w hSw
    (try dsimp only at hSw)
    first | (go_simp; done) | (go_simp; with_reducible rfl)
  (try simp only [Act.put, List.setIfInBounds_toArray, List.set_cons_zero, List.set_cons_succ])
  refine wpAnyH_take (i := 4) (v := ?_) (by simp only [List.getElem?_toArray, List.getElem?_cons_succ, List.getElem?_cons_zero]; exact rfl) (by kernel_rfl) (by kernel_rfl) (by kernel_rfl) (by exact fun _ _ _ h => h) (Or.inl ⟨by kernel_rfl, ?_⟩) hHeld ?_
  rotate_left
  · intro w hSw
    (try dsimp only at hSw)
    first | (go_simp; done) | (go_simp; with_reducible rfl)
  (try simp only [Act.put, List.setIfInBounds_toArray, List.set_cons_zero, List.set_cons_succ])
  refine wpAnyH_take (i := 5) (v := ?_) (by simp only [List.getElem?_toArray, List.getElem?_cons_succ, List.getElem?_cons_zero]; exact rfl) (by kernel_rfl) (by kernel_rfl) (by kernel_rfl) (by exact fun _ _ _ h => h) (Or.inl ⟨by kernel_rfl, ?_⟩) hHeld ?_
  rotate_left
  · intro w hSw
    (try dsimp only at hSw)
    first | (go_simp; done) | (go_simp; with_reducible rfl)
  (try simp only [Act.put, List.setIfInBounds_toArray, List.set_cons_zero, List.set_cons_succ])
  refine wpAnyH_take (i := 6) (v := ?_) (by simp only [List.getElem?_toArray, List.getElem?_cons_succ, List.getElem?_cons_zero]; exact rfl) (by kernel_rfl) (by kernel_rfl) (by kernel_rfl) (by exact fun _ _ _ h => h) (Or.inl ⟨by kernel_rfl, ?_⟩) hHeld ?_
  rotate_left
  · intro w hSw
    (try dsimp only at hSw)
    first | (go_simp; done) | (go_simp; with_reducible rfl)
  (try simp only [Act.put, List.setIfInBounds_toArray, List.set_cons_zero, List.set_cons_succ])
  refine wpAnyH_take (i := 7) (v := ?_) (by simp only [List.getElem?_toArray, List.getElem?_cons_succ, List.getElem?_cons_zero]; exact rfl) (by kernel_rfl) (by kernel_rfl) (by kernel_rfl) (by exact fun _ _ _ h => h) (Or.inl ⟨by kernel_rfl, ?_⟩) hHeld ?_
  rotate_left
  · intro w hSw
    (try dsimp only at hSw)
    first | (go_simp; done) | (go_simp; with_reducible rfl)
  (try simp only [Act.put, List.setIfInBounds_toArray, List.set_cons_zero, List.set_cons_succ])
  refine wpAnyH_take (i := 9) (v := ?_) (by simp only [List.getElem?_toArray, List.getElem?_cons_succ, List.getElem?_cons_zero]; exact rfl) (by kernel_rfl) (by kernel_rfl) (by kernel_rfl) (by exact fun _ _ _ h => h) (Or.inl ⟨by kernel_rfl, ?_⟩) hHeld ?_
  rotate_left
  · intro w hSw
    (try dsimp only at hSw)
    first | (go_simp; done) | (go_simp; with_reducible rfl)
  (try simp only [Act.put, List.setIfInBounds_toArray, List.set_cons_zero, List.set_cons_succ])
  refine wpAnyH_take (i := 10) (v := ?_) (by simp only [List.getElem?_toArray, List.getElem?_cons_succ, List.getElem?_cons_zero]; exact rfl) (by kernel_rfl) (by kernel_rfl) (by kernel_rfl) (by exact fun _ _ _ h => h) (Or.inl ⟨by kernel_rfl, ?_⟩) hHeld ?_
  rotate_left
  · intro w hSw
    (try dsimp only at hSw)
    first | (go_simp; done) | (go_simp; with_reducible rfl)
  (try simp only [Act.put, List.setIfInBounds_toArray, List.set_cons_zero, List.set_cons_succ])
  refine wpAnyH_take (i := 12) (v := ?_) (by simp only [List.getElem?_toArray, List.getElem?_cons_succ, List.getElem?_cons_zero]; exact rfl) (by kernel_rfl) (by kernel_rfl) (by kernel_rfl) (by exact fun _ _ _ h => h) (Or.inl ⟨by kernel_rfl, ?_⟩) hHeld ?_
  rotate_left
  · intro w hSw
    (try dsimp only at hSw)
    first | (go_simp; done) | (go_simp; with_reducible rfl)
  (try simp only [Act.put, List.setIfInBounds_toArray, List.set_cons_zero, List.set_cons_succ])
  refine wpAnyH_take (i := 13) (v := ?_) (by simp only [List.getElem?_toArray, List.getElem?_cons_succ, List.getElem?_cons_zero]; exact rfl) (by kernel_rfl) (by kernel_rfl) (by kernel_rfl) (by exact fun _ _ _ h => h) (Or.inl ⟨by kernel_rfl, ?_⟩) hHeld ?_
  rotate_left
  · intro w hSw
    (try dsimp only at hSw)
    first | (go_simp; done) | (go_simp; with_reducible rfl)
  (try simp only [Act.put, List.setIfInBounds_toArray, List.set_cons_zero, List.set_cons_succ])
  refine wpAnyH_take (i := 14) (v := ?_) (by simp only [List.getElem?_toArray, List.getElem?_cons_succ, List.getElem?_cons_zero]; exact rfl) (by kernel_rfl) (by kernel_rfl) (by kernel_rfl) (by exact fun _ _ _ h => h) (Or.inl ⟨by kernel_rfl, ?_⟩) hHeld ?_
  rotate_left
  · intro w hSw
    (try dsimp only at hSw)
    first | (go_simp; done) | (go_simp; with_reducible rfl)
  (try simp only [Act.put, List.setIfInBounds_toArray, List.set_cons_zero, List.set_cons_succ])
  refine wpAnyH_take (i := 15) (v := ?_) (by simp only [List.getElem?_toArray, List.getElem?_cons_succ, List.getElem?_cons_zero]; exact rfl) (by kernel_rfl) (by kernel_rfl) (by kernel_rfl) (by exact fun _ _ _ h => h) (Or.inl ⟨by kernel_rfl, ?_⟩) hHeld ?_
  rotate_left
  · intro w hSw
    (try dsimp only at hSw)
    first | (go_simp; done) | (go_simp; with_reducible rfl)
  (try simp only [Act.put, List.setIfInBounds_toArray, List.set_cons_zero, List.set_cons_succ])
  refine wpAnyH_take (i := 16) (v := ?_) (by simp only [List.getElem?_toArray, List.getElem?_cons_succ, List.getElem?_cons_zero]; exact rfl) (by kernel_rfl) (by kernel_rfl) (by kernel_rfl) (by exact fun _ _ _ h => h) (Or.inl ⟨by kernel_rfl, ?_⟩) hHeld ?_
  rotate_left
  · intro w hSw
    (try dsimp only at hSw)
    first | (go_simp; done) | (go_simp; with_reducible rfl)
  (try simp only [Act.put, List.setIfInBounds_toArray, List.set_cons_zero, List.set_cons_succ])
  refine wpAnyH_take (i := 17) (v := ?_) (by simp only [List.getElem?_toArray, List.getElem?_cons_succ, List.getElem?_cons_zero]; exact rfl) (by kernel_rfl) (by kernel_rfl) (by kernel_rfl) (by exact fun _ _ _ h => h) (Or.inl ⟨by kernel_rfl, ?_⟩) hHeld ?_
  rotate_left
  · intro w hSw
    (try dsimp only at hSw)
    first | (go_simp; done) | (go_simp; with_reducible rfl)
  (try simp only [Act.put, List.setIfInBounds_toArray, List.set_cons_zero, List.set_cons_succ])
  refine wpAnyH_take (i := 18) (v := ?_) (by simp only [List.getElem?_toArray, List.getElem?_cons_succ, List.getElem?_cons_zero]; exact rfl) (by kernel_rfl) (by kernel_rfl) (by kernel_rfl) (by exact fun _ _ _ h => h) (Or.inl ⟨by kernel_rfl, ?_⟩) hHeld ?_
  rotate_left
  · intro w hSw
    (try dsimp only at hSw)
    first | (go_simp; done) | (go_simp; with_reducible rfl)
  (try simp only [Act.put, List.setIfInBounds_toArray, List.set_cons_zero, List.set_cons_succ])
  refine wpAnyH_take (i := 19) (v := ?_) (by simp only [List.getElem?_toArray, List.getElem?_cons_succ, List.getElem?_cons_zero]; exact rfl) (by kernel_rfl) (by kernel_rfl) (by kernel_rfl) (by exact fun _ _ _ h => h) (Or.inl ⟨by kernel_rfl, ?_⟩) hHeld ?_
  rotate_left
  · intro w hSw
    (try dsimp only at hSw)
    first | (go_simp; done) | (go_simp; with_reducible rfl)
  (try simp only [Act.put, List.setIfInBounds_toArray, List.set_cons_zero, List.set_cons_succ])
  refine wpAnyH_ready (rs := [8]) (by kernel_rfl) (by simp) ?_
  refine AllReadyH.cons rfl (fun K hK => ?_) AllReadyH.nil
  rw [if_pos (by kernel_rfl)]
  go_simp
  have hsz9 := HL.out.size
  refine (HC97.out _ HL.out).mono ?_
  rintro e w9 ⟨⟨bv, rfl, hbo⟩, hb9⟩
  obtain ⟨ba, bc, rfl, _⟩ := owns_shape hbo
  have HL := Lib.hid (more_trans HL.out (more_of hb9))
  have HBO := Lib.hid (And.intro (show Row (fun b => N + 2 ≤ b) w9 1 _ _ _ from (Row.of_owns hbo).mono (fun b hb => Nat.le_trans HN2.out (Nat.le_trans hsz9 hb)) (fun _ _ _ _ h => h)) (owns_nil hbo))
  try have HKO := Lib.hid (show Row (fun b => N + 2 ≤ b) w9 4 _ _ _ from HKO.out.mono (fun _ h => h) (fun b off x hb hc => (more_of hb9).cell hc))
  have K9 := HK.out w9 HL.out
  clear hb9 hbo
  try go_wp2_with fail
  refine hK.out _ _ K9 (fun hHeld => ?_)
  clear hK K
  (try simp only [Act.put, List.setIfInBounds_toArray, List.set_cons_zero, List.set_cons_succ])
  refine wpAnyH_ready (rs := [11]) (by kernel_rfl) (by simp) ?_
  refine AllReadyH.cons rfl (fun K hK => ?_) AllReadyH.nil
  rw [if_pos (by kernel_rfl)]
  go_simp
  have hsz8 := HL.out.size
  refine (HC93.out _ HL.out).mono ?_
  rintro e w8 ⟨⟨kv, rfl, hko⟩, hb8⟩
  obtain ⟨ka, kc, rfl, _⟩ := owns_shape hko
  have HL := Lib.hid (more_trans HL.out (more_of hb8))
  have HKO := Lib.hid (show Row (fun b => N + 2 ≤ b) w8 4 _ _ _ from (Row.of_owns hko).mono (fun b hb => Nat.le_trans HN2.out (Nat.le_trans hsz8 hb)) (fun _ _ _ _ h => h))
  try have HBO := Lib.hid (And.intro (show Row (fun b => N + 2 ≤ b) w8 1 _ _ _ from HBO.out.1.mono (fun _ h => h) (fun b off x hb hc => (more_of hb8).cell hc)) HBO.out.2)
  have K8 := HK.out w8 HL.out
  clear hb8 hko
  try go_wp2_with fail
  refine hK.out _ _ K8 (fun hHeld => ?_)
  clear hK K
  (try simp only [Act.put, List.setIfInBounds_toArray, List.set_cons_zero, List.set_cons_succ])
  refine wpAnyH_take (i := 20) (v := .agg (fl ++ ([.string q, .int .i64 hor, .slice ba (encS (Sl.map (·.2))).length bc, .slice ka (keysG Sl).length kc, .slice ua U.length uc, .slice ha H.length hcp, .int .i64 wit, .int .i64 spl] : List Value)).toArray) (by simp only [List.getElem?_toArray, List.getElem?_cons_succ, List.getElem?_cons_zero]; exact rfl) (by kernel_rfl) (by kernel_rfl) (by kernel_rfl) (by exact fun _ _ _ h => h) (Or.inl ⟨by kernel_rfl, ?_⟩) hHeld ?_
  · intro W _
    have e := hbld ba ka (encS (Sl.map (·.2))).length bc (keysG Sl).length kc W
    simp only [execOp]
    generalize Instr.build 104 = IB at e ⊢
    go_simp
  (try simp only [Act.put, List.setIfInBounds_toArray, List.set_cons_zero, List.set_cons_succ])
  have HRZ := Lib.hid ((HL.out.block (blk_lt HR.out)).trans HR.out)
  refine wpAnyH_ready (rs := [21]) (by kernel_rfl) (by simp) ?_
  refine AllReadyH.cons rfl (fun K hK => ?_) AllReadyH.nil
  rw [if_pos (by kernel_rfl)]
  refine wp_store_row 104 _ _ rfl (N + 1) (fl ++ ([.string q, .int .i64 hor, .slice ba (encS (Sl.map (·.2))).length bc, .slice ka (keysG Sl).length kc, .slice ua U.length uc, .slice ha H.length hcp, .int .i64 wit, .int .i64 spl] : List Value)).toArray rfl rfl 104 _ HRZ.out (by rw [List.size_toArray, List.length_append, HFL.out]; exact info104) (by show 40 = _; rw [List.size_toArray, List.length_append, HFL.out]; rfl) (all_oneCell_toArray (fun v hv => by
    rcases List.mem_append.1 hv with h | h
    · exact HF1.out v h
    · simp only [List.mem_cons, List.not_mem_nil, or_false] at h
      rcases h with rfl | rfl | rfl | rfl | rfl | rfl | rfl | rfl <;> rfl)) ?_
  refine hK.out _ _ (HKS.out _ _ K8) (fun hHeld => ?_)
  clear hK K
  (try simp only [Act.put, List.setIfInBounds_toArray])
  refine wpAnyH_done (by kernel_rfl) ?_ _
  clear HKS hbld h96u h96i HK
  have HRF := Lib.hid (setRow_heap w8 (N + 1) _ ((fl ++ ([.string q, .int .i64 hor, .slice ba (encS (Sl.map (·.2))).length bc, .slice ka (keysG Sl).length kc, .slice ua U.length uc, .slice ha H.length hcp, .int .i64 wit, .int .i64 spl] : List Value))).toArray 104 (0, 0) HRZ.out)
  have HBF := Lib.hid (show Below N w (w8.setRow (N + 1) ((fl ++ ([.string q, .int .i64 hor, .slice ba (encS (Sl.map (·.2))).length bc, .slice ka (keysG Sl).length kc, .slice ua U.length uc, .slice ha H.length hcp, .int .i64 wit, .int .i64 spl] : List Value))).toArray) from below_setRow (show Below N w w8 by rw [HN.out]; exact (more_trans HM1.out HL.out).below) (by omega) _)
  have HKF := Lib.hid (HKO.out.mono (S' := anyB) (w' := w8.setRow (N + 1) ((fl ++ ([.string q, .int .i64 hor, .slice ba (encS (Sl.map (·.2))).length bc, .slice ka (keysG Sl).length kc, .slice ua U.length uc, .slice ha H.length hcp, .int .i64 wit, .int .i64 spl] : List Value))).toArray) (fun _ _ => trivial) (fun b off x hb hc => by rw [cell_setRow_other _ _ _ _ (by show b ≠ N + 1; omega)]; exact hc))
  have HBG := Lib.hid (ByG.mk (HBO.out.1.mono (S' := anyB) (w' := w8.setRow (N + 1) ((fl ++ ([.string q, .int .i64 hor, .slice ba (encS (Sl.map (·.2))).length bc, .slice ka (keysG Sl).length kc, .slice ua U.length uc, .slice ha H.length hcp, .int .i64 wit, .int .i64 spl] : List Value))).toArray) (fun _ _ => trivial) (fun b off x hb hc => by rw [cell_setRow_other _ _ _ _ (by show b ≠ N + 1; omega)]; exact hc)) HBO.out.2)
  clear HKO HBO
  go_wp2_with fail
  refine bodyPost_ret (v := .agg ((fl ++ ([.string q, .int .i64 hor, .slice ba (encS (Sl.map (·.2))).length bc, .slice ka (keysG Sl).length kc, .slice ua U.length uc, .slice ha H.length hcp, .int .i64 wit, .int .i64 spl] : List Value))).toArray) (results_cell_row Try.results52 _ _ (N + 1) 104 _ (0, 0) _ rfl HRF.out Try.underlying104 rfl (by rw [List.size_toArray, List.length_append, HFL.out]; exact info104)) rfl ⟨⟨_, rfl, ⟨_, ⟨?_, ?_, ?_, ?_, ?_, ?_, ?_, HKF.out, HC.out.und.below (by rw [← HN.out]; exact HBF.out), HC.out.hol.below (by rw [← HN.out]; exact HBF.out), fun p hp => (HC.out.each p hp).below (by rw [← HN.out]; exact HBF.out), HC.out.ulen, HC.out.hlen, HC.out.set.len, by rw [List.size_toArray, List.length_append, HFL.out]; rfl, _, ?_, HBG.out⟩⟩, fun i hi => ?_⟩, HBF.out⟩
  · rw [List.getElem?_toArray, List.getElem?_append_right (by rw [HFL.out]; decide), HFL.out]; rfl
  · rw [List.getElem?_toArray, List.getElem?_append_right (by rw [HFL.out]; decide), HFL.out]; rfl
  · rw [List.getElem?_toArray, List.getElem?_append_right (by rw [HFL.out]; decide), HFL.out]; rfl
  · rw [List.getElem?_toArray, List.getElem?_append_right (by rw [HFL.out]; decide), HFL.out]; rfl
  · rw [List.getElem?_toArray, List.getElem?_append_right (by rw [HFL.out]; decide), HFL.out]; rfl
  · rw [List.getElem?_toArray, List.getElem?_append_right (by rw [HFL.out]; decide), HFL.out]; rfl
  · rw [List.getElem?_toArray, List.getElem?_append_right (by rw [HFL.out]; decide), HFL.out]; rfl
  · rw [List.getElem?_toArray, List.getElem?_append_right (by rw [HFL.out]; decide), HFL.out]; rfl
  · rw [List.getElem?_toArray, List.getElem?_append_left (by rw [HFL.out]; exact hi)]
    have h1 : i < fl.length := by rw [HFL.out]; exact hi
    rw [List.getElem?_eq_getElem h1]
    exact (HFR.out i _ (List.getElem?_eq_getElem h1)).symm
end Go.Proofs.Ytemeppfikpafbaa

