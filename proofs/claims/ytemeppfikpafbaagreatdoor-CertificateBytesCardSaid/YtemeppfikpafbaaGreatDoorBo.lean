/- Texts TolG, OpnG, laid together. -/
import Derived.Deep.MidRow
import Derived.Deep.Slices
import Derived.ProofKit
import Derived.OpenShut
import Derived.Test.YtemeppfikpafbaaGreatDoorBe
import Derived.Test.YtemeppfikpafbaaGreatDoorBh
/- rootcauselaw50.told (52). -/
namespace Go.Proofs.YtemeppfikpafbaaGreatDoor
open Go.RowKit
theorem info96 : (Tryz.prog.info? 31).map (·.size) = some 32 := by kernel_rfl
theorem info104 : (Tryz.prog.info? 42).map (·.size) = some 40 := by kernel_rfl
theorem list32 {fl : List Value} (h : fl.length = 32) : ∃ a0 a1 a2 a3 a4 a5 a6 a7 a8 a9 a10 a11 a12 a13 a14 a15 a16 a17 a18 a19 a20 a21 a22 a23 a24 a25 a26 a27 a28 a29 a30 a31, fl = [a0, a1, a2, a3, a4, a5, a6, a7, a8, a9, a10, a11, a12, a13, a14, a15, a16, a17, a18, a19, a20, a21, a22, a23, a24, a25, a26, a27, a28, a29, a30, a31] := by
  match fl, h with
  | [a0, a1, a2, a3, a4, a5, a6, a7, a8, a9, a10, a11, a12, a13, a14, a15, a16, a17, a18, a19, a20, a21, a22, a23, a24, a25, a26, a27, a28, a29, a30, a31], _ => exact ⟨a0, a1, a2, a3, a4, a5, a6, a7, a8, a9, a10, a11, a12, a13, a14, a15, a16, a17, a18, a19, a20, a21, a22, a23, a24, a25, a26, a27, a28, a29, a30, a31, rfl⟩
theorem built104 {fl : List Value} (h : fl.length = 32) (q : ByteArray) (hor wit spl : Int) (xa ya ua ha : Option Addr) (xl xc yl yc ul uc hl hc : Nat) : Tryz.prog.built 42 [(0, .agg fl.toArray), (1, .string q), (2, .int .i64 hor), (3, .slice xa xl xc), (4, .slice ya yl yc), (5, .slice ua ul uc), (6, .slice ha hl hc), (7, .int .i64 wit), (8, .int .i64 spl)] = some (fl ++ ([.string q, .int .i64 hor, .slice xa xl xc, .slice ya yl yc, .slice ua ul uc, .slice ha hl hc, .int .i64 wit, .int .i64 spl] : List Value)).toArray := by
  obtain ⟨a0, a1, a2, a3, a4, a5, a6, a7, a8, a9, a10, a11, a12, a13, a14, a15, a16, a17, a18, a19, a20, a21, a22, a23, a24, a25, a26, a27, a28, a29, a30, a31, rfl⟩ := list32 h
  kernel_rfl
theorem below_setRow {B g : Nat} {w w' : World} (h : Below B w w') (hB : B ≤ g) (cs : Array Value) : Below B w (w'.setRow g cs) :=
  ⟨h.os, h.tape, h.output, by rw [setRow_size]; exact h.size, fun k hk => (setRow_other _ _ _ _ (by omega)).trans (h.block k hk)⟩
theorem HAt.below {w w' : World} {p : HV} (h : HAt anyB w p) (hb : Below w.heap.size w w') : HAt anyB w' p := h.more (more_of hb)
set_option maxRecDepth 100000 in
set_option maxHeartbeats 8000000 in
theorem told52_any (arr : Array Value) (c : Cert) (w : World) (hc : CertAt w arr c) (h8 : ∀ i, i < 32 → ∃ n : Int, arr[i]? = some (.int .u8 n)) (hi : ∀ p ∈ c.S, ∀ n ∈ p.2.l, In64 n) :
    Calls Tryz.prog 9 #[.agg arr] w fun e w' => (∃ arr' kv, e = .returned (.agg arr') ∧ RefAt w' arr' c kv ∧ (∀ i, i < 32 → arr'[i]? = arr[i]?)) ∧ Below w.heap.size w w' := by
  obtain ⟨q, hor, sv, Sl, uv, U, hv, H, wit, spl⟩ := c
  have HC := Lib.hid hc
  have HI := Lib.hid hi; clear hi
  obtain ⟨hsz, hq32, h33, h34, h35, h36, h37, h38, hset, hund, hhol, heach, hul, hhl⟩ := hc
  dsimp only at *
  obtain ⟨ua, uc, rfl, _⟩ := hund.shape
  obtain ⟨ha, hcp, rfl, _⟩ := hhol.shape
  obtain ⟨sa, sc, rfl, _⟩ := hset.row.shape
  clear hset hund hhol heach hul hhl
  obtain ⟨fl, hfle⟩ : ∃ fl : List Value, fl = arr.toList.take 32 := ⟨_, rfl⟩
  have hfl : fl.length = 32 := by rw [hfle, List.length_take, Array.length_toList, hsz]; rfl
  have hfr : ∀ j v, fl[j]? = some v → arr[j]? = some v := fun j v h => by
    have hj : j < 32 := by rw [← hfl]; exact (List.getElem?_eq_some_iff.1 h).1
    rw [hfle, List.getElem?_take_of_lt hj, Array.getElem?_toList] at h
    exact h
  have hf1 : ∀ v ∈ fl, v.oneCell' = true := fun v hv => by
    obtain ⟨j, hj, e⟩ := List.getElem_of_mem hv
    obtain ⟨n, hn⟩ := h8 j (by omega)
    have h1 := hfr j fl[j] (List.getElem?_eq_getElem hj)
    rw [hn, e] at h1
    cases h1; rfl
  have HFL := Lib.hid hfl
  have HFR := Lib.hid hfr; clear hfr
  have HF1 := Lib.hid hf1; clear hf1
  clear hfle h8 hfl
  obtain ⟨N, HN⟩ : ∃ N, Hid (N = w.heap.size) := ⟨_, Lib.hid rfl⟩
  obtain ⟨hB, hR, hML⟩ := boxed2 w (.cells arr 35) (.cells #[.int .u8 0, .int .u8 0, .int .u8 0, .int .u8 0, .int .u8 0, .int .u8 0, .int .u8 0, .int .u8 0, .int .u8 0, .int .u8 0, .int .u8 0, .int .u8 0, .int .u8 0, .int .u8 0, .int .u8 0, .int .u8 0, .int .u8 0, .int .u8 0, .int .u8 0, .int .u8 0, .int .u8 0, .int .u8 0, .int .u8 0, .int .u8 0, .int .u8 0, .int .u8 0, .int .u8 0, .int .u8 0, .int .u8 0, .int .u8 0, .int .u8 0, .int .u8 0, .string (ByteArray.mk #[]), .int .i64 0, .slice none 0 0, .slice none 0 0, .slice none 0 0, .slice none 0 0, .int .i64 0, .int .i64 0] 42)
  have HB := Lib.hid hB; have HR := Lib.hid hR; have HM1 := Lib.hid hML.1
  clear hB hR hML
  rw [← HN.out] at HB HR ⊢
  go_enter Tryz.func9, Tryz.ntmps9
  go_upto_region 1 with (fail)
  rw [← HN.out]
  generalize (w.alloc (.cells arr 35)).alloc (.cells #[.int .u8 0, .int .u8 0, .int .u8 0, .int .u8 0, .int .u8 0, .int .u8 0, .int .u8 0, .int .u8 0, .int .u8 0, .int .u8 0, .int .u8 0, .int .u8 0, .int .u8 0, .int .u8 0, .int .u8 0, .int .u8 0, .int .u8 0, .int .u8 0, .int .u8 0, .int .u8 0, .int .u8 0, .int .u8 0, .int .u8 0, .int .u8 0, .int .u8 0, .int .u8 0, .int .u8 0, .int .u8 0, .int .u8 0, .int .u8 0, .int .u8 0, .int .u8 0, .string (ByteArray.mk #[]), .int .i64 0, .slice none 0 0, .slice none 0 0, .slice none 0 0, .slice none 0 0, .int .i64 0, .int .i64 0] 42) = w1 at *
  have n32 : w1.cell? ⟨N, 32, none⟩ = some (.string q) := cell_of_blk HB.out hq32
  have n33 : w1.cell? ⟨N, 33, none⟩ = some (.int .i64 hor) := cell_of_blk HB.out h33
  have n34 : w1.cell? ⟨N, 34, none⟩ = some (.slice sa Sl.length sc) := cell_of_blk HB.out h34
  have n35 : w1.cell? ⟨N, 35, none⟩ = some (.slice ua U.length uc) := cell_of_blk HB.out h35
  have n36 : w1.cell? ⟨N, 36, none⟩ = some (.slice ha H.length hcp) := cell_of_blk HB.out h36
  have n37 : w1.cell? ⟨N, 37, none⟩ = some (.int .i64 wit) := cell_of_blk HB.out h37
  have n38 : w1.cell? ⟨N, 38, none⟩ = some (.int .i64 spl) := cell_of_blk HB.out h38
  clear hq32 h33 h34 h35 h36 h37 h38
  have hrg : w1.rangeAt N 0 fl := fun j v hv => by rw [Nat.zero_add]; exact cell_of_blk HB.out (HFR.out j v hv)
  have hbn := cell_lt n32
  have HN2 := Lib.hid (show N + 2 ≤ w1.heap.size from blk_lt HR.out)
  have HC97 := Lib.hid (fun W (hW : More w1 W) => bytes97_any Sl _ W (HC.out.set.more (more_trans HM1.out hW)) HI.out)
  have HC93 := Lib.hid (fun W (hW : More w1 W) => keys93_gen Sl _ W (HC.out.set.more (more_trans HM1.out hW)))
  have HK := Lib.hid (show ∀ W, More w1 W → (W.cell? ⟨N, 32, none⟩ = some (.string q) ∧ W.cell? ⟨N, 33, none⟩ = some (.int .i64 hor) ∧ W.cell? ⟨N, 34, none⟩ = some (.slice sa Sl.length sc) ∧ W.cell? ⟨N, 35, none⟩ = some (.slice ua U.length uc) ∧ W.cell? ⟨N, 36, none⟩ = some (.slice ha H.length hcp) ∧ W.cell? ⟨N, 37, none⟩ = some (.int .i64 wit) ∧ W.cell? ⟨N, 38, none⟩ = some (.int .i64 spl) ∧ W.rangeAt N 0 fl) from fun W h => ⟨h.cell n32, h.cell n33, h.cell n34, h.cell n35, h.cell n36, h.cell n37, h.cell n38, fun j v hv => h.cell (hrg j v hv)⟩)
  have HL := Lib.hid (more_drew w1)
  have h96u := Tryz.underlying31
  have h96i : (Tryz.prog.info? 31).map (·.size) = some fl.length := by rw [HFL.out]; exact info96
  have hbld := fun (xa ya : Option Addr) (xl xc yl yc : Nat) (W : World) => run_build (P := Tryz.prog) W 42 #[(0, .agg fl.toArray), (1, .string q), (2, .int .i64 hor), (3, .slice xa xl xc), (4, .slice ya yl yc), (5, .slice ua U.length uc), (6, .slice ha H.length hcp), (7, .int .i64 wit), (8, .int .i64 spl)] _ (built104 HFL.out q hor wit spl xa ya ua ha xl xc yl yc U.length uc H.length hcp)
  have HKS := Lib.hid (show ∀ (W : World) (cs : Array Value), (W.cell? ⟨N, 32, none⟩ = some (.string q) ∧ W.cell? ⟨N, 33, none⟩ = some (.int .i64 hor) ∧ W.cell? ⟨N, 34, none⟩ = some (.slice sa Sl.length sc) ∧ W.cell? ⟨N, 35, none⟩ = some (.slice ua U.length uc) ∧ W.cell? ⟨N, 36, none⟩ = some (.slice ha H.length hcp) ∧ W.cell? ⟨N, 37, none⟩ = some (.int .i64 wit) ∧ W.cell? ⟨N, 38, none⟩ = some (.int .i64 spl) ∧ W.rangeAt N 0 fl) → ((W.setRow (N + 1) cs).cell? ⟨N, 32, none⟩ = some (.string q) ∧ (W.setRow (N + 1) cs).cell? ⟨N, 33, none⟩ = some (.int .i64 hor) ∧ (W.setRow (N + 1) cs).cell? ⟨N, 34, none⟩ = some (.slice sa Sl.length sc) ∧ (W.setRow (N + 1) cs).cell? ⟨N, 35, none⟩ = some (.slice ua U.length uc) ∧ (W.setRow (N + 1) cs).cell? ⟨N, 36, none⟩ = some (.slice ha H.length hcp) ∧ (W.setRow (N + 1) cs).cell? ⟨N, 37, none⟩ = some (.int .i64 wit) ∧ (W.setRow (N + 1) cs).cell? ⟨N, 38, none⟩ = some (.int .i64 spl) ∧ (W.setRow (N + 1) cs).rangeAt N 0 fl) from fun W cs h => by
    obtain ⟨k0, k1, k2, k3, k4, k5, k6, k7⟩ := h
    refine ⟨?_, ?_, ?_, ?_, ?_, ?_, ?_, fun j v hv => ?_⟩
    · rw [cell_setRow_other W _ _ _ (by show N ≠ N + 1; omega)]; exact k0
    · rw [cell_setRow_other W _ _ _ (by show N ≠ N + 1; omega)]; exact k1
    · rw [cell_setRow_other W _ _ _ (by show N ≠ N + 1; omega)]; exact k2
    · rw [cell_setRow_other W _ _ _ (by show N ≠ N + 1; omega)]; exact k3
    · rw [cell_setRow_other W _ _ _ (by show N ≠ N + 1; omega)]; exact k4
    · rw [cell_setRow_other W _ _ _ (by show N ≠ N + 1; omega)]; exact k5
    · rw [cell_setRow_other W _ _ _ (by show N ≠ N + 1; omega)]; exact k6
    · rw [cell_setRow_other W _ _ _ (by show N ≠ N + 1; omega)]; exact k7 j v hv)
  refine wp_region_held_drew (S := fun W => W.cell? ⟨N, 32, none⟩ = some (.string q) ∧ W.cell? ⟨N, 33, none⟩ = some (.int .i64 hor) ∧ W.cell? ⟨N, 34, none⟩ = some (.slice sa Sl.length sc) ∧ W.cell? ⟨N, 35, none⟩ = some (.slice ua U.length uc) ∧ W.cell? ⟨N, 36, none⟩ = some (.slice ha H.length hcp) ∧ W.cell? ⟨N, 37, none⟩ = some (.int .i64 wit) ∧ W.cell? ⟨N, 38, none⟩ = some (.int .i64 spl) ∧ W.rangeAt N 0 fl) (by kernel_rfl) (HK.out _ HL.out) (fun hHeld => ?_)
  refine wpAnyH_take (i := 0) (v := ?_) (by simp only [List.getElem?_toArray, List.getElem?_cons_zero]; exact rfl) (by kernel_rfl) (by kernel_rfl) (by kernel_rfl) (by exact fun _ _ _ h => h) (Or.inl ⟨by kernel_rfl, ?_⟩) hHeld ?_
  rotate_left
  · intro w hSw
    (try dsimp only at hSw)
    first | (go_simp; done) | (go_simp; with_reducible rfl)
  (try simp only [Act.put, List.setIfInBounds_toArray, List.set_cons_zero, List.set_cons_succ])
  refine wpAnyH_take (i := 1) (v := .agg fl.toArray) (by simp only [List.getElem?_toArray, List.getElem?_cons_succ, List.getElem?_cons_zero]; exact rfl) (by kernel_rfl) (by kernel_rfl) (by kernel_rfl) (by exact fun _ _ _ h => h) (yieldsIf_load_mid (by kernel_rfl) 31 _ rfl N 0 rfl fl _ (fun w h => h.2.2.2.2.2.2.2) h96u rfl h96i) hHeld ?_
  (try simp only [Act.put, List.setIfInBounds_toArray, List.set_cons_zero, List.set_cons_succ])
  refine wpAnyH_take (i := 2) (v := ?_) (by simp only [List.getElem?_toArray, List.getElem?_cons_succ, List.getElem?_cons_zero]; exact rfl) (by kernel_rfl) (by kernel_rfl) (by kernel_rfl) (by exact fun _ _ _ h => h) (Or.inl ⟨by kernel_rfl, ?_⟩) hHeld ?_
  rotate_left
  · intro w hSw
    (try dsimp only at hSw)
    first | (go_simp; done) | (go_simp; with_reducible rfl)
  (try simp only [Act.put, List.setIfInBounds_toArray, List.set_cons_zero, List.set_cons_succ])
  refine wpAnyH_take (i := 3) (v := ?_) (by simp only [List.getElem?_toArray, List.getElem?_cons_succ, List.getElem?_cons_zero]; exact rfl) (by kernel_rfl) (by kernel_rfl) (by kernel_rfl) (by exact fun _ _ _ h => h) (Or.inl ⟨by kernel_rfl, ?_⟩) hHeld ?_
  rotate_left
  · intro w hSw
    (try dsimp only at hSw)
    first | (go_simp; done) | (go_simp; with_reducible rfl)
  (try simp only [Act.put, List.setIfInBounds_toArray, List.set_cons_zero, List.set_cons_succ])
  refine wpAnyH_take (i := 4) (v := ?_) (by simp only [List.getElem?_toArray, List.getElem?_cons_succ, List.getElem?_cons_zero]; exact rfl) (by kernel_rfl) (by kernel_rfl) (by kernel_rfl) (by exact fun _ _ _ h => h) (Or.inl ⟨by kernel_rfl, ?_⟩) hHeld ?_
  rotate_left
  · intro w hSw
    (try dsimp only at hSw)
    first | (go_simp; done) | (go_simp; with_reducible rfl)
  (try simp only [Act.put, List.setIfInBounds_toArray, List.set_cons_zero, List.set_cons_succ])
  refine wpAnyH_take (i := 5) (v := ?_) (by simp only [List.getElem?_toArray, List.getElem?_cons_succ, List.getElem?_cons_zero]; exact rfl) (by kernel_rfl) (by kernel_rfl) (by kernel_rfl) (by exact fun _ _ _ h => h) (Or.inl ⟨by kernel_rfl, ?_⟩) hHeld ?_
  rotate_left
  · intro w hSw
    (try dsimp only at hSw)
    first | (go_simp; done) | (go_simp; with_reducible rfl)
  (try simp only [Act.put, List.setIfInBounds_toArray, List.set_cons_zero, List.set_cons_succ])
  refine wpAnyH_take (i := 6) (v := ?_) (by simp only [List.getElem?_toArray, List.getElem?_cons_succ, List.getElem?_cons_zero]; exact rfl) (by kernel_rfl) (by kernel_rfl) (by kernel_rfl) (by exact fun _ _ _ h => h) (Or.inl ⟨by kernel_rfl, ?_⟩) hHeld ?_
  rotate_left
  · intro w hSw
    (try dsimp only at hSw)
    first | (go_simp; done) | (go_simp; with_reducible rfl)
  (try simp only [Act.put, List.setIfInBounds_toArray, List.set_cons_zero, List.set_cons_succ])
  refine wpAnyH_take (i := 7) (v := ?_) (by simp only [List.getElem?_toArray, List.getElem?_cons_succ, List.getElem?_cons_zero]; exact rfl) (by kernel_rfl) (by kernel_rfl) (by kernel_rfl) (by exact fun _ _ _ h => h) (Or.inl ⟨by kernel_rfl, ?_⟩) hHeld ?_
  rotate_left
  · intro w hSw
    (try dsimp only at hSw)
    first | (go_simp; done) | (go_simp; with_reducible rfl)
  (try simp only [Act.put, List.setIfInBounds_toArray, List.set_cons_zero, List.set_cons_succ])
  refine wpAnyH_take (i := 9) (v := ?_) (by simp only [List.getElem?_toArray, List.getElem?_cons_succ, List.getElem?_cons_zero]; exact rfl) (by kernel_rfl) (by kernel_rfl) (by kernel_rfl) (by exact fun _ _ _ h => h) (Or.inl ⟨by kernel_rfl, ?_⟩) hHeld ?_
  rotate_left
  · intro w hSw
    (try dsimp only at hSw)
    first | (go_simp; done) | (go_simp; with_reducible rfl)
  (try simp only [Act.put, List.setIfInBounds_toArray, List.set_cons_zero, List.set_cons_succ])
  refine wpAnyH_take (i := 10) (v := ?_) (by simp only [List.getElem?_toArray, List.getElem?_cons_succ, List.getElem?_cons_zero]; exact rfl) (by kernel_rfl) (by kernel_rfl) (by kernel_rfl) (by exact fun _ _ _ h => h) (Or.inl ⟨by kernel_rfl, ?_⟩) hHeld ?_
  rotate_left
  · intro w hSw
    (try dsimp only at hSw)
    first | (go_simp; done) | (go_simp; with_reducible rfl)
  (try simp only [Act.put, List.setIfInBounds_toArray, List.set_cons_zero, List.set_cons_succ])
  refine wpAnyH_take (i := 12) (v := ?_) (by simp only [List.getElem?_toArray, List.getElem?_cons_succ, List.getElem?_cons_zero]; exact rfl) (by kernel_rfl) (by kernel_rfl) (by kernel_rfl) (by exact fun _ _ _ h => h) (Or.inl ⟨by kernel_rfl, ?_⟩) hHeld ?_
  rotate_left
  · intro w hSw
    (try dsimp only at hSw)
    first | (go_simp; done) | (go_simp; with_reducible rfl)
  (try simp only [Act.put, List.setIfInBounds_toArray, List.set_cons_zero, List.set_cons_succ])
  refine wpAnyH_take (i := 13) (v := ?_) (by simp only [List.getElem?_toArray, List.getElem?_cons_succ, List.getElem?_cons_zero]; exact rfl) (by kernel_rfl) (by kernel_rfl) (by kernel_rfl) (by exact fun _ _ _ h => h) (Or.inl ⟨by kernel_rfl, ?_⟩) hHeld ?_
  rotate_left
  · intro w hSw
    (try dsimp only at hSw)
    first | (go_simp; done) | (go_simp; with_reducible rfl)
  (try simp only [Act.put, List.setIfInBounds_toArray, List.set_cons_zero, List.set_cons_succ])
  refine wpAnyH_take (i := 14) (v := ?_) (by simp only [List.getElem?_toArray, List.getElem?_cons_succ, List.getElem?_cons_zero]; exact rfl) (by kernel_rfl) (by kernel_rfl) (by kernel_rfl) (by exact fun _ _ _ h => h) (Or.inl ⟨by kernel_rfl, ?_⟩) hHeld ?_
  rotate_left
  · intro w hSw
    (try dsimp only at hSw)
    first | (go_simp; done) | (go_simp; with_reducible rfl)
  (try simp only [Act.put, List.setIfInBounds_toArray, List.set_cons_zero, List.set_cons_succ])
  refine wpAnyH_take (i := 15) (v := ?_) (by simp only [List.getElem?_toArray, List.getElem?_cons_succ, List.getElem?_cons_zero]; exact rfl) (by kernel_rfl) (by kernel_rfl) (by kernel_rfl) (by exact fun _ _ _ h => h) (Or.inl ⟨by kernel_rfl, ?_⟩) hHeld ?_
  rotate_left
  · intro w hSw
    (try dsimp only at hSw)
    first | (go_simp; done) | (go_simp; with_reducible rfl)
  (try simp only [Act.put, List.setIfInBounds_toArray, List.set_cons_zero, List.set_cons_succ])
  refine wpAnyH_take (i := 16) (v := ?_) (by simp only [List.getElem?_toArray, List.getElem?_cons_succ, List.getElem?_cons_zero]; exact rfl) (by kernel_rfl) (by kernel_rfl) (by kernel_rfl) (by exact fun _ _ _ h => h) (Or.inl ⟨by kernel_rfl, ?_⟩) hHeld ?_
  rotate_left
  · intro w hSw
    (try dsimp only at hSw)
    first | (go_simp; done) | (go_simp; with_reducible rfl)
  (try simp only [Act.put, List.setIfInBounds_toArray, List.set_cons_zero, List.set_cons_succ])
  refine wpAnyH_take (i := 17) (v := ?_) (by simp only [List.getElem?_toArray, List.getElem?_cons_succ, List.getElem?_cons_zero]; exact rfl) (by kernel_rfl) (by kernel_rfl) (by kernel_rfl) (by exact fun _ _ _ h => h) (Or.inl ⟨by kernel_rfl, ?_⟩) hHeld ?_
  rotate_left
  · intro w hSw
    (try dsimp only at hSw)
    first | (go_simp; done) | (go_simp; with_reducible rfl)
  (try simp only [Act.put, List.setIfInBounds_toArray, List.set_cons_zero, List.set_cons_succ])
  refine wpAnyH_take (i := 18) (v := ?_) (by simp only [List.getElem?_toArray, List.getElem?_cons_succ, List.getElem?_cons_zero]; exact rfl) (by kernel_rfl) (by kernel_rfl) (by kernel_rfl) (by exact fun _ _ _ h => h) (Or.inl ⟨by kernel_rfl, ?_⟩) hHeld ?_
  rotate_left
  · intro w hSw
    (try dsimp only at hSw)
    first | (go_simp; done) | (go_simp; with_reducible rfl)
  (try simp only [Act.put, List.setIfInBounds_toArray, List.set_cons_zero, List.set_cons_succ])
  refine wpAnyH_take (i := 19) (v := ?_) (by simp only [List.getElem?_toArray, List.getElem?_cons_succ, List.getElem?_cons_zero]; exact rfl) (by kernel_rfl) (by kernel_rfl) (by kernel_rfl) (by exact fun _ _ _ h => h) (Or.inl ⟨by kernel_rfl, ?_⟩) hHeld ?_
  rotate_left
  · intro w hSw
    (try dsimp only at hSw)
    first | (go_simp; done) | (go_simp; with_reducible rfl)
  (try simp only [Act.put, List.setIfInBounds_toArray, List.set_cons_zero, List.set_cons_succ])
  refine wpAnyH_ready (rs := [8]) (by kernel_rfl) (by simp) ?_
  refine AllReadyH.cons rfl (fun K hK => ?_) AllReadyH.nil
  rw [if_pos (by kernel_rfl)]
  go_simp
  have hsz9 := HL.out.size
  refine (HC97.out _ HL.out).mono ?_
  rintro e w9 ⟨⟨bv, rfl, hbo⟩, hb9⟩
  obtain ⟨ba, bc, rfl, _⟩ := owns_shape hbo
  have HL := Lib.hid (more_trans HL.out (more_of hb9))
  have HBO := Lib.hid (And.intro (show Row (fun b => N + 2 ≤ b) w9 1 _ _ _ from (Row.of_owns hbo).mono (fun b hb => Nat.le_trans HN2.out (Nat.le_trans hsz9 hb)) (fun _ _ _ _ h => h)) (owns_nil hbo))
  try have HKO := Lib.hid (show Row (fun b => N + 2 ≤ b) w9 4 _ _ _ from HKO.out.mono (fun _ h => h) (fun b off x hb hc => (more_of hb9).cell hc))
  have K9 := HK.out w9 HL.out
  clear hb9 hbo
  try go_wp2_with fail
  refine hK.out _ _ K9 (fun hHeld => ?_)
  clear hK K
  (try simp only [Act.put, List.setIfInBounds_toArray, List.set_cons_zero, List.set_cons_succ])
  refine wpAnyH_ready (rs := [11]) (by kernel_rfl) (by simp) ?_
  refine AllReadyH.cons rfl (fun K hK => ?_) AllReadyH.nil
  rw [if_pos (by kernel_rfl)]
  go_simp
  have hsz8 := HL.out.size
  refine (HC93.out _ HL.out).mono ?_
  rintro e w8 ⟨⟨kv, rfl, hko⟩, hb8⟩
  obtain ⟨ka, kc, rfl, _⟩ := owns_shape hko
  have HL := Lib.hid (more_trans HL.out (more_of hb8))
  have HKO := Lib.hid (show Row (fun b => N + 2 ≤ b) w8 4 _ _ _ from (Row.of_owns hko).mono (fun b hb => Nat.le_trans HN2.out (Nat.le_trans hsz8 hb)) (fun _ _ _ _ h => h))
  try have HBO := Lib.hid (And.intro (show Row (fun b => N + 2 ≤ b) w8 1 _ _ _ from HBO.out.1.mono (fun _ h => h) (fun b off x hb hc => (more_of hb8).cell hc)) HBO.out.2)
  have K8 := HK.out w8 HL.out
  clear hb8 hko
  try go_wp2_with fail
  refine hK.out _ _ K8 (fun hHeld => ?_)
  clear hK K
  (try simp only [Act.put, List.setIfInBounds_toArray, List.set_cons_zero, List.set_cons_succ])
  refine wpAnyH_take (i := 20) (v := .agg (fl ++ ([.string q, .int .i64 hor, .slice ba (encS (Sl.map (·.2))).length bc, .slice ka (keysG Sl).length kc, .slice ua U.length uc, .slice ha H.length hcp, .int .i64 wit, .int .i64 spl] : List Value)).toArray) (by simp only [List.getElem?_toArray, List.getElem?_cons_succ, List.getElem?_cons_zero]; exact rfl) (by kernel_rfl) (by kernel_rfl) (by kernel_rfl) (by exact fun _ _ _ h => h) (Or.inl ⟨by kernel_rfl, ?_⟩) hHeld ?_
  · intro W _
    have e := hbld ba ka (encS (Sl.map (·.2))).length bc (keysG Sl).length kc W
    simp only [execOp]
    generalize Instr.build 42 = IB at e ⊢
    go_simp
  (try simp only [Act.put, List.setIfInBounds_toArray, List.set_cons_zero, List.set_cons_succ])
  have HRZ := Lib.hid ((HL.out.block (blk_lt HR.out)).trans HR.out)
  refine wpAnyH_ready (rs := [21]) (by kernel_rfl) (by simp) ?_
  refine AllReadyH.cons rfl (fun K hK => ?_) AllReadyH.nil
  rw [if_pos (by kernel_rfl)]
  refine wp_store_row 42 _ _ rfl (N + 1) (fl ++ ([.string q, .int .i64 hor, .slice ba (encS (Sl.map (·.2))).length bc, .slice ka (keysG Sl).length kc, .slice ua U.length uc, .slice ha H.length hcp, .int .i64 wit, .int .i64 spl] : List Value)).toArray rfl rfl 42 _ HRZ.out (by rw [List.size_toArray, List.length_append, HFL.out]; exact info104) (by show 40 = _; rw [List.size_toArray, List.length_append, HFL.out]; rfl) (all_oneCell_toArray (fun v hv => by
    rcases List.mem_append.1 hv with h | h
    · exact HF1.out v h
    · simp only [List.mem_cons, List.not_mem_nil, or_false] at h
      rcases h with rfl | rfl | rfl | rfl | rfl | rfl | rfl | rfl <;> rfl)) ?_
  refine hK.out _ _ (HKS.out _ _ K8) (fun hHeld => ?_)
  clear hK K
  (try simp only [Act.put, List.setIfInBounds_toArray])
  refine wpAnyH_done (by kernel_rfl) ?_ _
  clear HKS hbld h96u h96i HK
  have HRF := Lib.hid (setRow_heap w8 (N + 1) _ ((fl ++ ([.string q, .int .i64 hor, .slice ba (encS (Sl.map (·.2))).length bc, .slice ka (keysG Sl).length kc, .slice ua U.length uc, .slice ha H.length hcp, .int .i64 wit, .int .i64 spl] : List Value))).toArray 42 (0, 0) HRZ.out)
  have HBF := Lib.hid (show Below N w (w8.setRow (N + 1) ((fl ++ ([.string q, .int .i64 hor, .slice ba (encS (Sl.map (·.2))).length bc, .slice ka (keysG Sl).length kc, .slice ua U.length uc, .slice ha H.length hcp, .int .i64 wit, .int .i64 spl] : List Value))).toArray) from below_setRow (show Below N w w8 by rw [HN.out]; exact (more_trans HM1.out HL.out).below) (by omega) _)
  have HKF := Lib.hid (HKO.out.mono (S' := anyB) (w' := w8.setRow (N + 1) ((fl ++ ([.string q, .int .i64 hor, .slice ba (encS (Sl.map (·.2))).length bc, .slice ka (keysG Sl).length kc, .slice ua U.length uc, .slice ha H.length hcp, .int .i64 wit, .int .i64 spl] : List Value))).toArray) (fun _ _ => trivial) (fun b off x hb hc => by rw [cell_setRow_other _ _ _ _ (by show b ≠ N + 1; omega)]; exact hc))
  have HBG := Lib.hid (ByG.mk (HBO.out.1.mono (S' := anyB) (w' := w8.setRow (N + 1) ((fl ++ ([.string q, .int .i64 hor, .slice ba (encS (Sl.map (·.2))).length bc, .slice ka (keysG Sl).length kc, .slice ua U.length uc, .slice ha H.length hcp, .int .i64 wit, .int .i64 spl] : List Value))).toArray) (fun _ _ => trivial) (fun b off x hb hc => by rw [cell_setRow_other _ _ _ _ (by show b ≠ N + 1; omega)]; exact hc)) HBO.out.2)
  clear HKO HBO
  go_wp2_with fail
  refine bodyPost_ret (v := .agg ((fl ++ ([.string q, .int .i64 hor, .slice ba (encS (Sl.map (·.2))).length bc, .slice ka (keysG Sl).length kc, .slice ua U.length uc, .slice ha H.length hcp, .int .i64 wit, .int .i64 spl] : List Value))).toArray) (results_cell_row Tryz.results9 _ _ (N + 1) 42 _ (0, 0) _ rfl HRF.out Tryz.underlying42 rfl (by rw [List.size_toArray, List.length_append, HFL.out]; exact info104)) rfl ⟨⟨_, rfl, ⟨_, ⟨?_, ?_, ?_, ?_, ?_, ?_, ?_, HKF.out, HC.out.und.below (by rw [← HN.out]; exact HBF.out), HC.out.hol.below (by rw [← HN.out]; exact HBF.out), fun p hp => (HC.out.each p hp).below (by rw [← HN.out]; exact HBF.out), HC.out.ulen, HC.out.hlen, HC.out.set.len, by rw [List.size_toArray, List.length_append, HFL.out]; rfl, _, ?_, HBG.out⟩⟩, fun i hi => ?_⟩, HBF.out⟩
  · rw [List.getElem?_toArray, List.getElem?_append_right (by rw [HFL.out]; decide), HFL.out]; rfl
  · rw [List.getElem?_toArray, List.getElem?_append_right (by rw [HFL.out]; decide), HFL.out]; rfl
  · rw [List.getElem?_toArray, List.getElem?_append_right (by rw [HFL.out]; decide), HFL.out]; rfl
  · rw [List.getElem?_toArray, List.getElem?_append_right (by rw [HFL.out]; decide), HFL.out]; rfl
  · rw [List.getElem?_toArray, List.getElem?_append_right (by rw [HFL.out]; decide), HFL.out]; rfl
  · rw [List.getElem?_toArray, List.getElem?_append_right (by rw [HFL.out]; decide), HFL.out]; rfl
  · rw [List.getElem?_toArray, List.getElem?_append_right (by rw [HFL.out]; decide), HFL.out]; rfl
  · rw [List.getElem?_toArray, List.getElem?_append_right (by rw [HFL.out]; decide), HFL.out]; rfl
  · rw [List.getElem?_toArray, List.getElem?_append_left (by rw [HFL.out]; exact hi)]
    have h1 : i < fl.length := by rw [HFL.out]; exact hi
    rw [List.getElem?_eq_getElem h1]
    exact (HFR.out i _ (List.getElem?_eq_getElem h1)).symm
end Go.Proofs.YtemeppfikpafbaaGreatDoor

/- The argument of the certificate laws (type 94), opened: choices, keys, holds and numbers. -/
namespace Go.Proofs.YtemeppfikpafbaaGreatDoor
open Go.RowKit Go.ChangeShapes Go.WideShapes
section
variable {H : Type} {enc : TypeId × Value → H} {P : Program} {w : World} {base : Nat} {spare : Nat → Bool} {held : Bool}

theorem flatMap_getG {α : Type} (g : α → List Value) (C : Nat) (hg : ∀ x, (g x).length = C) : ∀ (xs : List α) (j : Nat) (u : Value), (xs.flatMap g)[j]? = some u → ∃ i r, ∃ h : i < xs.length, r < C ∧ j = i * C + r ∧ (g xs[i])[r]? = some u
  | [], j, u, h => by simp at h
  | x :: xs, j, u, h => by
    rw [List.flatMap_cons] at h
    by_cases hj : j < C
    · rw [List.getElem?_append_left (by rw [hg]; exact hj)] at h
      exact ⟨0, j, by simp, hj, by simp, by simpa using h⟩
    · rw [List.getElem?_append_right (by rw [hg]; omega), hg] at h
      obtain ⟨i, r, hi, hr, hjr, hu⟩ := flatMap_getG g C hg xs _ u h
      exact ⟨i + 1, r, by simpa using hi, hr, by rw [Nat.add_mul]; omega, by simpa using hu⟩
theorem flatMap_lenG {α : Type} (g : α → List Value) (C : Nat) (hg : ∀ x, (g x).length = C) (xs : List α) : (xs.flatMap g).length = xs.length * C := by
  induction xs with
  | nil => simp
  | cons x xs ih => rw [List.flatMap_cons, List.length_append, hg, ih, List.length_cons, Nat.add_mul]; omega

theorem cell_spotG {w : World} {a : Addr} {v : Value} (h : w.cell? a = some v) : a.spot = none := by
  unfold World.cell? at h
  split at h
  · split at h
    · cases h
    · rename_i hs; simpa using hs
  · cases h

/-- A slice whose elements are each known cell by cell. -/
theorem open_rowsG {α : Type} [Inhabited α] {t e : TypeId} {v : Value} {d : DataW H} {ps : List MemPlace} (g : α → List Value) (Ok : α → Prop) (C : Nat) (hg : ∀ x, (g x).length = C) (hC0 : 0 < C) (ht : P.underlying t = some (.slice e)) (hC : P.cellsOf e = C)
    (helem : ∀ fuel cs y, DataW.trod enc P w base spare held fuel e cs = some y → ∃ x, Ok x ∧ cs = g x)
    (hv : ∃ a len cap, v = .slice a len cap) (h : DataW.Trod enc P w base spare held t v d ps) : ∃ xs : List α, (∀ x ∈ xs, Ok x) ∧ xs.length ≤ maxLen ∧ Row (fun _ => True) w C xs.length v (xs.flatMap g) := by
  obtain ⟨va, vl, vc, rfl⟩ := hv
  obtain ⟨fuel, hf⟩ := h
  rcases Deep.open_slice ht hf with ⟨h0, _⟩ | ⟨a, len, cap, m, n, D, Pl, hcs, _, hl, hm, hmm, _, hi⟩
  · have h0' : Value.slice va vl vc = .slice none 0 0 := by simpa [Value.cells] using h0
    rw [h0']
    exact ⟨[], fun x hx => by (cases hx), Nat.zero_le _, Row.nil _ _ _ _ _⟩
  · have hc' : Value.slice va vl vc = .slice (some a) len cap := by simpa [Value.cells] using hcs
    rw [hc']
    have hlm : len ≤ m := by rw [hmm]; split <;> omega
    have hex : ∀ i, i < len → ∃ x, Ok x ∧ w.cells? base (a.add (i * C)) C = some (g x) := by
      intro i hil
      obtain ⟨cs', h1, h2⟩ := hi i (by omega)
      rw [hC] at h1
      obtain ⟨x, hx, rfl⟩ := helem _ _ _ h2
      exact ⟨x, hx, h1⟩
    obtain ⟨f, hf'⟩ := Deep.choose_lt hex
    refine ⟨(List.range len).map f, fun x hx => ?_, by simp; omega, ?_⟩
    · obtain ⟨i, hi', rfl⟩ := List.mem_map.1 hx
      exact (hf' i (by simpa using hi')).1
    · refine ⟨flatMap_lenG g C hg _, some a, cap, by simp, by simpa using hl, fun hn => ?_⟩
      have hlen : 0 < len := by simp at hn; omega
      have hcell : ∀ i, i < len → ∀ r, r < C → w.cell? (a.add (i * C + r)) = (g (f i))[r]? := by
        intro i hil r hr
        obtain ⟨_, _, h3⟩ := World.cells?_some (hf' i hil).2
        rw [← Deep.add_add]; exact h3 r hr
      have hsp : a.spot = none := by
        have h00 := hcell 0 hlen 0 hC0
        rw [List.getElem?_eq_getElem (by rw [hg]; exact hC0)] at h00
        have := cell_spotG h00
        simpa [Addr.add] using this
      obtain ⟨b, off, sp⟩ := a
      simp only at hsp
      subst hsp
      refine ⟨b, off, rfl, trivial, fun j u hj => ?_⟩
      obtain ⟨i, r, hi', hr, rfl, hu⟩ := flatMap_getG g C hg _ j u hj
      have hil : i < len := by simpa using hi'
      have := hcell i hil r hr
      simp only [List.getElem_map, List.getElem_range] at hu
      rw [hu] at this
      rw [← this]
      unfold Addr.add
      split
      · rename_i h0; rw [h0]; rfl
      · rfl
end
section
variable {H : Type} {enc : TypeId × Value → H} {w : World} {base : Nat} {spare : Nat → Bool} {held : Bool}
/-- A nil slice has no capacity. -/
theorem open_rows_atG {P : Program} {α : Type} [Inhabited α] {t e : TypeId} {fuel : Nat} {cs : List Value} {y : DataW H × List MemPlace} (g : α → List Value) (Ok : α → Prop) (C : Nat) (hg : ∀ x, (g x).length = C) (hC0 : 0 < C) (ht : P.underlying t = some (.slice e)) (hC : P.cellsOf e = C)
    (helem : ∀ fuel cs y, DataW.trod enc P w base spare held fuel e cs = some y → ∃ x, Ok x ∧ cs = g x)
    (h : DataW.trod enc P w base spare held fuel t cs = some y) : ∃ (v : Value) (xs : List α), cs = [v] ∧ (∀ x ∈ xs, Ok x) ∧ xs.length ≤ maxLen ∧ Row anyB w C xs.length v (flatC g xs) ∧ NilA v := by
  rcases Deep.open_slice ht h with ⟨h0, _⟩ | ⟨a, len, cap, _, _, _, _, h0, _⟩
  · obtain ⟨xs, h1, h2, h3⟩ := open_rowsG (d := y.1) (ps := y.2) g Ok C hg hC0 ht hC helem (v := .slice none 0 0) ⟨_, _, _, rfl⟩ ⟨fuel, by simpa [Value.cells, h0] using h⟩
    exact ⟨_, xs, h0, h1, h2, h3, fun n c e => by cases e; rfl⟩
  · obtain ⟨xs, h1, h2, h3⟩ := open_rowsG (d := y.1) (ps := y.2) g Ok C hg hC0 ht hC helem (v := .slice (some a) len cap) ⟨_, _, _, rfl⟩ ⟨fuel, by simpa [Value.cells, h0] using h⟩
    exact ⟨_, xs, h0, h1, h2, h3, fun n c e => by cases e⟩
theorem in64_ofG {n : Int} (h : (Lit.int .i64 n).wf = true) : In64 n := by
  unfold In64
  simp [Lit.wf, IntKind.min, IntKind.max, IntKind.signed, IntKind.bits] at h; omega
theorem u8_ofG {n : Int} (h : (Lit.int .u8 n).wf = true) : 0 ≤ n ∧ n ≤ 255 := by
  simpa [Lit.wf, IntKind.min, IntKind.max, IntKind.signed, IntKind.bits] using h
theorem one_ofG {l : List Value} {j : Nat} {v : Value} (h : (l.drop j).take 1 = [v]) : l[j]? = some v := by
  have := congrArg (·[0]?) h
  simpa using this
theorem four_ofG {l : List Value} (hl : l.length = 4) {a b c d : Value} (h0 : l[0]? = some a) (h1 : l[1]? = some b) (h2 : l[2]? = some c) (h3 : l[3]? = some d) : l = [a, b, c, d] := by
  match l, hl with
  | [_, _, _, _], _ => simp_all
theorem three_ofG {l : List Value} (hl : l.length = 3) {a b c : Value} (h0 : l[0]? = some a) (h1 : l[1]? = some b) (h2 : l[2]? = some c) : l = [a, b, c] := by
  match l, hl with
  | [_, _, _], _ => simp_all
end
theorem list_ext4 {l : List Value} {n : Nat} (hl : l.length = n) {m : List Value} (hm : m.length = n) (h : ∀ i, i < n → l[i]? = m[i]?) : l = m := by
  apply List.ext_getElem?
  intro i
  by_cases hi : i < n
  · exact h i hi
  · rw [List.getElem?_eq_none (by omega), List.getElem?_eq_none (by omega)]
theorem take_get {cs p : List Value} {o n i : Nat} (h : (cs.drop o).take n = p) (hi : i < n) : cs[o + i]? = p[i]? := by
  rw [← h, List.getElem?_take_of_lt hi, List.getElem?_drop]
instance : Inhabited K4 := ⟨⟨0, 0, 0, 0⟩⟩
instance : Inhabited M3 := ⟨⟨0, 0, 0⟩⟩
structure K4.OkG (k : K4) : Prop where
  kind : 0 ≤ k.kind ∧ k.kind ≤ 255
  a : In64 k.a
  b : In64 k.b
  n : In64 k.n
structure M3.OkG (m : M3) : Prop where
  f : In64 m.f
  t : In64 m.t
  n : In64 m.n
structure Cg.OkG (w : World) (p : GV) : Prop where
  arg : GArg anyB w p
  key : p.2.k.OkG
  t : In64 p.2.t
  d : In64 p.2.d
  len : p.2.l.length ≤ maxLen
  i64 : ∀ n ∈ p.2.l, In64 n
structure Ar.OkG (w : World) (p : AV) : Prop where
  row : Row anyB w 1 p.2.l.length p.1 (flatC nC p.2.l)
  nil : NilA p.1
  tk : In64 p.2.tk
  hd : In64 p.2.hd
  len : p.2.l.length ≤ maxLen
  i64 : ∀ n ∈ p.2.l, In64 n
structure Ho.OkG (w : World) (p : HV) : Prop where
  at' : HAt anyB w p
  m : p.2.m.OkG
  ars : ∀ a ∈ p.2.al, Ar.OkG w a
section
variable {H : Type} {enc : TypeId × Value → H} {w : World} {base : Nat} {spare : Nat → Bool} {held : Bool}
theorem cellsG2 : Tryz.prog.cellsOf 2 = 1 := by kernel_rfl
theorem i64_elemG (fuel : Nat) (cs : List Value) (y : DataW H × List MemPlace) (h : DataW.trod enc Tryz.prog w base spare held fuel 2 cs = some y) : ∃ x : Int, In64 x ∧ cs = nC x := by
  obtain ⟨n0, c0, _, w0⟩ := DataW.trod_int Tryz.underlying2 h
  exact ⟨n0, in64_ofG w0, c0⟩
theorem cellsG5 : Tryz.prog.cellsOf 5 = 1 := by kernel_rfl
theorem byt_elemG (fuel : Nat) (cs : List Value) (y : DataW H × List MemPlace) (h : DataW.trod enc Tryz.prog w base spare held fuel 5 cs = some y) : ∃ x : Int, (0 ≤ x ∧ x ≤ 255) ∧ cs = [.int .u8 x] := by
  obtain ⟨n0, c0, _, w0⟩ := DataW.trod_int Tryz.underlying5 h
  exact ⟨n0, u8_ofG w0, c0⟩
theorem cellsG48 : Tryz.prog.cellsOf 53 = 4 := by kernel_rfl
theorem cellsG46 : Tryz.prog.cellsOf 51 = 1 := by kernel_rfl
theorem cellsG3 : Tryz.prog.cellsOf 3 = 1 := by kernel_rfl
theorem key_elemG (fuel : Nat) (cs : List Value) (y : DataW H × List MemPlace) (h : DataW.trod enc Tryz.prog w base spare held fuel 53 cs = some y) : ∃ x : K4, x.OkG ∧ cs = kC x := by
  obtain ⟨xs, n, _, _, hl, hxl, hf⟩ := DataW.trod_struct Tryz.underlying53 h
  rw [cellsG48] at hl
  have g : ∀ j, j < 4 → ∃ z, xs[j]? = some z := fun j hj => ⟨_, List.getElem?_eq_getElem (by rw [hxl]; exact hj)⟩
  have f0 := hf 0 _ rfl
  obtain ⟨z0, e0⟩ := g 0 (by omega)
  rw [e0] at f0
  obtain ⟨n0, c0, _, w0⟩ := DataW.trod_int Tryz.underlying51 f0
  change (cs.drop 0).take (Tryz.prog.cellsOf 51) = _ at c0
  rw [cellsG46] at c0
  have f1 := hf 1 _ rfl
  obtain ⟨z1, e1⟩ := g 1 (by omega)
  rw [e1] at f1
  obtain ⟨n1, c1, _, w1⟩ := DataW.trod_int Tryz.underlying3 f1
  change (cs.drop 1).take (Tryz.prog.cellsOf 3) = _ at c1
  rw [cellsG3] at c1
  have f2 := hf 2 _ rfl
  obtain ⟨z2, e2⟩ := g 2 (by omega)
  rw [e2] at f2
  obtain ⟨n2, c2, _, w2⟩ := DataW.trod_int Tryz.underlying3 f2
  change (cs.drop 2).take (Tryz.prog.cellsOf 3) = _ at c2
  rw [cellsG3] at c2
  have f3 := hf 3 _ rfl
  obtain ⟨z3, e3⟩ := g 3 (by omega)
  rw [e3] at f3
  obtain ⟨n3, c3, _, w3⟩ := DataW.trod_int Tryz.underlying3 f3
  change (cs.drop 3).take (Tryz.prog.cellsOf 3) = _ at c3
  rw [cellsG3] at c3
  exact ⟨⟨n0, n1, n2, n3⟩, ⟨u8_ofG w0, in64_ofG w1, in64_ofG w2, in64_ofG w3⟩, four_ofG hl (one_ofG c0) (one_ofG c1) (one_ofG c2) (one_ofG c3)⟩
theorem cellsG54 : Tryz.prog.cellsOf 65 = 3 := by kernel_rfl
theorem msg_elemG (fuel : Nat) (cs : List Value) (y : DataW H × List MemPlace) (h : DataW.trod enc Tryz.prog w base spare held fuel 65 cs = some y) : ∃ x : M3, x.OkG ∧ cs = mC x := by
  obtain ⟨xs, n, _, _, hl, hxl, hf⟩ := DataW.trod_struct Tryz.underlying65 h
  rw [cellsG54] at hl
  have g : ∀ j, j < 3 → ∃ z, xs[j]? = some z := fun j hj => ⟨_, List.getElem?_eq_getElem (by rw [hxl]; exact hj)⟩
  have f0 := hf 0 _ rfl
  obtain ⟨z0, e0⟩ := g 0 (by omega)
  rw [e0] at f0
  obtain ⟨n0, c0, _, w0⟩ := DataW.trod_int Tryz.underlying3 f0
  change (cs.drop 0).take (Tryz.prog.cellsOf 3) = _ at c0
  rw [cellsG3] at c0
  have f1 := hf 1 _ rfl
  obtain ⟨z1, e1⟩ := g 1 (by omega)
  rw [e1] at f1
  obtain ⟨n1, c1, _, w1⟩ := DataW.trod_int Tryz.underlying3 f1
  change (cs.drop 1).take (Tryz.prog.cellsOf 3) = _ at c1
  rw [cellsG3] at c1
  have f2 := hf 2 _ rfl
  obtain ⟨z2, e2⟩ := g 2 (by omega)
  rw [e2] at f2
  obtain ⟨n2, c2, _, w2⟩ := DataW.trod_int Tryz.underlying3 f2
  change (cs.drop 2).take (Tryz.prog.cellsOf 3) = _ at c2
  rw [cellsG3] at c2
  exact ⟨⟨n0, n1, n2⟩, ⟨in64_ofG w0, in64_ofG w1, in64_ofG w2⟩, three_ofG hl (one_ofG c0) (one_ofG c1) (one_ofG c2)⟩
theorem cellsG113 : Tryz.prog.cellsOf 58 = 7 := by kernel_rfl
theorem cellsG111 : Tryz.prog.cellsOf 56 = 1 := by kernel_rfl
theorem cho_elemG (fuel : Nat) (cs : List Value) (y : DataW H × List MemPlace) (h : DataW.trod enc Tryz.prog w base spare held fuel 58 cs = some y) : ∃ x : GV, Cg.OkG w x ∧ cs = gC x := by
  obtain ⟨xs, n, _, _, hl, hxl, hf⟩ := DataW.trod_struct Tryz.underlying58 h
  rw [cellsG113] at hl
  have g : ∀ j, j < 4 → ∃ z, xs[j]? = some z := fun j hj => ⟨_, List.getElem?_eq_getElem (by rw [hxl]; exact hj)⟩
  have f0 := hf 0 _ rfl
  obtain ⟨z0, e0⟩ := g 0 (by omega)
  rw [e0] at f0
  obtain ⟨n0, w0, c0⟩ := key_elemG _ _ _ f0
  change (cs.drop 0).take (Tryz.prog.cellsOf 53) = _ at c0
  rw [cellsG48] at c0
  have f1 := hf 1 _ rfl
  obtain ⟨z1, e1⟩ := g 1 (by omega)
  rw [e1] at f1
  obtain ⟨n1, c1, _, w1⟩ := DataW.trod_int Tryz.underlying3 f1
  change (cs.drop 4).take (Tryz.prog.cellsOf 3) = _ at c1
  rw [cellsG3] at c1
  have f2 := hf 2 _ rfl
  obtain ⟨z2, e2⟩ := g 2 (by omega)
  rw [e2] at f2
  obtain ⟨n2, c2, _, w2⟩ := DataW.trod_int Tryz.underlying3 f2
  change (cs.drop 5).take (Tryz.prog.cellsOf 3) = _ at c2
  rw [cellsG3] at c2
  have f3 := hf 3 _ rfl
  obtain ⟨z3, e3⟩ := g 3 (by omega)
  rw [e3] at f3
  obtain ⟨v3, l3, c3, k3, m3, r3, q3⟩ := open_rows_atG nC In64 1 nC_len (by omega) Tryz.underlying56 cellsG2 i64_elemG f3
  change (cs.drop 6).take (Tryz.prog.cellsOf 56) = _ at c3
  rw [cellsG111] at c3
  refine ⟨(v3, ⟨n0, n1, n2, l3⟩), ⟨⟨r3, q3⟩, w0, in64_ofG w1, in64_ofG w2, m3, k3⟩, list_ext4 hl rfl (fun i hi => ?_)⟩
  have hi' : i = 0 ∨ i = 1 ∨ i = 2 ∨ i = 3 ∨ i = 4 ∨ i = 5 ∨ i = 6 := by omega
  rcases hi' with rfl | rfl | rfl | rfl | rfl | rfl | rfl
  · have := take_get (i := 0) c0 (by omega); simpa [gC, kC] using this
  · have := take_get (i := 1) c0 (by omega); simpa [gC, kC] using this
  · have := take_get (i := 2) c0 (by omega); simpa [gC, kC] using this
  · have := take_get (i := 3) c0 (by omega); simpa [gC, kC] using this
  · exact one_ofG c1
  · exact one_ofG c2
  · exact one_ofG c3
theorem cellsG177 : Tryz.prog.cellsOf 72 = 3 := by kernel_rfl
theorem arr_elemG (fuel : Nat) (cs : List Value) (y : DataW H × List MemPlace) (h : DataW.trod enc Tryz.prog w base spare held fuel 72 cs = some y) : ∃ x : AV, Ar.OkG w x ∧ cs = aC x := by
  obtain ⟨xs, n, _, _, hl, hxl, hf⟩ := DataW.trod_struct Tryz.underlying72 h
  rw [cellsG177] at hl
  have g : ∀ j, j < 3 → ∃ z, xs[j]? = some z := fun j hj => ⟨_, List.getElem?_eq_getElem (by rw [hxl]; exact hj)⟩
  have f0 := hf 0 _ rfl
  obtain ⟨z0, e0⟩ := g 0 (by omega)
  rw [e0] at f0
  obtain ⟨n0, c0, _, w0⟩ := DataW.trod_int Tryz.underlying3 f0
  change (cs.drop 0).take (Tryz.prog.cellsOf 3) = _ at c0
  rw [cellsG3] at c0
  have f1 := hf 1 _ rfl
  obtain ⟨z1, e1⟩ := g 1 (by omega)
  rw [e1] at f1
  obtain ⟨n1, c1, _, w1⟩ := DataW.trod_int Tryz.underlying3 f1
  change (cs.drop 1).take (Tryz.prog.cellsOf 3) = _ at c1
  rw [cellsG3] at c1
  have f2 := hf 2 _ rfl
  obtain ⟨z2, e2⟩ := g 2 (by omega)
  rw [e2] at f2
  obtain ⟨v2, l2, c2, k2, m2, r2, q2⟩ := open_rows_atG nC In64 1 nC_len (by omega) Tryz.underlying56 cellsG2 i64_elemG f2
  change (cs.drop 2).take (Tryz.prog.cellsOf 56) = _ at c2
  rw [cellsG111] at c2
  exact ⟨(v2, ⟨n0, n1, l2⟩), ⟨r2, q2, in64_ofG w0, in64_ofG w1, m2, k2⟩, three_ofG hl (one_ofG c0) (one_ofG c1) (one_ofG c2)⟩
theorem cellsG166 : Tryz.prog.cellsOf 68 = 4 := by kernel_rfl
theorem cellsG164 : Tryz.prog.cellsOf 66 = 1 := by kernel_rfl
theorem hold_elemG (fuel : Nat) (cs : List Value) (y : DataW H × List MemPlace) (h : DataW.trod enc Tryz.prog w base spare held fuel 68 cs = some y) : ∃ x : HV, Ho.OkG w x ∧ cs = hC x := by
  obtain ⟨xs, n, _, _, hl, hxl, hf⟩ := DataW.trod_struct Tryz.underlying68 h
  rw [cellsG166] at hl
  have g : ∀ j, j < 2 → ∃ z, xs[j]? = some z := fun j hj => ⟨_, List.getElem?_eq_getElem (by rw [hxl]; exact hj)⟩
  have f0 := hf 0 _ rfl
  obtain ⟨z0, e0⟩ := g 0 (by omega)
  rw [e0] at f0
  obtain ⟨n0, w0, c0⟩ := msg_elemG _ _ _ f0
  change (cs.drop 0).take (Tryz.prog.cellsOf 65) = _ at c0
  rw [cellsG54] at c0
  have f1 := hf 1 _ rfl
  obtain ⟨z1, e1⟩ := g 1 (by omega)
  rw [e1] at f1
  obtain ⟨v1, l1, c1, k1, m1, r1, q1⟩ := open_rows_atG aC (Ar.OkG w) 3 aC_len (by omega) Tryz.underlying66 cellsG177 arr_elemG f1
  change (cs.drop 3).take (Tryz.prog.cellsOf 66) = _ at c1
  rw [cellsG164] at c1
  refine ⟨(v1, ⟨n0, l1⟩), ⟨⟨r1, fun a ha => ⟨(k1 a ha).row, (k1 a ha).nil⟩, q1, m1, fun a ha => (k1 a ha).len⟩, w0, k1⟩, list_ext4 hl rfl (fun i hi => ?_)⟩
  have hi' : i = 0 ∨ i = 1 ∨ i = 2 ∨ i = 3 := by omega
  rcases hi' with rfl | rfl | rfl | rfl
  · have := take_get (i := 0) c0 (by omega); simpa [hC, mC] using this
  · have := take_get (i := 1) c0 (by omega); simpa [hC, mC] using this
  · have := take_get (i := 2) c0 (by omega); simpa [hC, mC] using this
  · exact one_ofG c1
end
/-- A certificate in any form. -/
structure RawC where
  fl : Value × Value × Value × Value
  q : ByteArray
  hor : Int
  wit : Int
  spl : Int
  cv : Value
  C : List GV
  uv : Value
  U : List K4
  hv : Value
  H : List HV
  ov : Value
  O : List Int
def RawC.cells (x : RawC) : List Value := [x.fl.1, x.fl.2.1, x.fl.2.2.1, x.fl.2.2.2, .string x.q, .int .i64 x.hor, .int .i64 x.wit, .int .i64 x.spl, x.cv, x.uv, x.hv, x.ov]
structure RawC.Ok (w : World) (x : RawC) : Prop where
  fl : (∃ n, x.fl.1 = .int .u8 n ∧ 0 ≤ n ∧ n ≤ 255) ∧ (∃ n, x.fl.2.1 = .int .u8 n ∧ 0 ≤ n ∧ n ≤ 255) ∧ (∃ n, x.fl.2.2.1 = .int .u8 n ∧ 0 ≤ n ∧ n ≤ 255) ∧ (∃ n, x.fl.2.2.2 = .int .u8 n ∧ 0 ≤ n ∧ n ≤ 255)
  q : x.q.size ≤ maxLen
  hor : In64 x.hor
  wit : In64 x.wit
  spl : In64 x.spl
  C : Row anyB w 7 x.C.length x.cv (flatC gC x.C)
  Ce : ∀ p ∈ x.C, Cg.OkG w p
  Cl : x.C.length ≤ maxLen
  U : Row anyB w 4 x.U.length x.uv (flatC kC x.U)
  Ue : ∀ k ∈ x.U, k.OkG
  Ul : x.U.length ≤ maxLen
  H : Row anyB w 4 x.H.length x.hv (flatC hC x.H)
  He : ∀ p ∈ x.H, Ho.OkG w p
  Hl : x.H.length ≤ maxLen
  O : Row anyB w 1 x.O.length x.ov (flatC (fun n : Int => [Value.int .u8 n]) x.O)
  Oe : ∀ n ∈ x.O, 0 ≤ n ∧ n ≤ 255
  Ol : x.O.length ≤ maxLen
section
variable {H : Type} {enc : TypeId × Value → H} {w : World} {base : Nat} {spare : Nat → Bool} {held : Bool}
theorem cellsG90 : Tryz.prog.cellsOf 22 = 4 := by kernel_rfl
theorem fleet_elemG (fuel : Nat) (cs : List Value) (y : DataW H × List MemPlace) (h : DataW.trod enc Tryz.prog w base spare held fuel 22 cs = some y) : ∃ a b c d : Int, (0 ≤ a ∧ a ≤ 255) ∧ (0 ≤ b ∧ b ≤ 255) ∧ (0 ≤ c ∧ c ≤ 255) ∧ (0 ≤ d ∧ d ≤ 255) ∧ cs = [.int .u8 a, .int .u8 b, .int .u8 c, .int .u8 d] := by
  obtain ⟨xs, m, _, _, hl, hxl, hf⟩ := DataW.trod_array Tryz.underlying22 h
  rw [cellsG90] at hl
  rw [cellsG5] at hf
  have g : ∀ j, j < 4 → ∃ z, xs[j]? = some z := fun j hj => ⟨_, List.getElem?_eq_getElem (by rw [hxl]; exact hj)⟩
  have k : ∀ j, j < 4 → ∃ n : Int, (0 ≤ n ∧ n ≤ 255) ∧ (cs.drop (j * 1)).take 1 = [.int .u8 n] := fun j hj => by
    obtain ⟨z, e⟩ := g j hj
    have f := hf j hj
    rw [e] at f
    exact byt_elemG _ _ _ f
  obtain ⟨a, ha, h0⟩ := k 0 (by omega)
  obtain ⟨b, hb, h1⟩ := k 1 (by omega)
  obtain ⟨c, hc, h2⟩ := k 2 (by omega)
  obtain ⟨d, hd, h3⟩ := k 3 (by omega)
  exact ⟨a, b, c, d, ha, hb, hc, hd, four_ofG hl (one_ofG h0) (one_ofG h1) (one_ofG h2) (one_ofG h3)⟩
theorem cellsG9 : Tryz.prog.cellsOf 9 = 1 := by kernel_rfl
theorem cellsG94 : Tryz.prog.cellsOf 28 = 12 := by kernel_rfl
theorem cellsG71 : Tryz.prog.cellsOf 23 = 1 := by kernel_rfl
theorem cellsG27 : Tryz.prog.cellsOf 24 = 1 := by kernel_rfl
theorem cellsG91 : Tryz.prog.cellsOf 25 = 1 := by kernel_rfl
theorem cellsG92 : Tryz.prog.cellsOf 26 = 1 := by kernel_rfl
theorem raw_elemG (fuel : Nat) (cs : List Value) (y : DataW H × List MemPlace) (h : DataW.trod enc Tryz.prog w base spare held fuel 28 cs = some y) : ∃ x : RawC, RawC.Ok w x ∧ cs = x.cells := by
  obtain ⟨xs, n, _, _, hl, hxl, hf⟩ := DataW.trod_struct Tryz.underlying28 h
  rw [cellsG94] at hl
  have g : ∀ j, j < 9 → ∃ z, xs[j]? = some z := fun j hj => ⟨_, List.getElem?_eq_getElem (by rw [hxl]; exact hj)⟩
  have f0 := hf 0 _ rfl
  obtain ⟨z0, e0⟩ := g 0 (by omega)
  rw [e0] at f0
  obtain ⟨fa, fb, fc, fd, ha, hb, hc, hd, c0⟩ := fleet_elemG _ _ _ f0
  change (cs.drop 0).take (Tryz.prog.cellsOf 22) = _ at c0
  rw [cellsG90] at c0
  have f1 := hf 1 _ rfl
  obtain ⟨z1, e1⟩ := g 1 (by omega)
  rw [e1] at f1
  obtain ⟨n1, c1, _, w1⟩ := DataW.trod_string Tryz.underlying9 f1
  change (cs.drop 4).take (Tryz.prog.cellsOf 9) = _ at c1
  rw [cellsG9] at c1
  have f2 := hf 2 _ rfl
  obtain ⟨z2, e2⟩ := g 2 (by omega)
  rw [e2] at f2
  obtain ⟨n2, c2, _, w2⟩ := DataW.trod_int Tryz.underlying3 f2
  change (cs.drop 5).take (Tryz.prog.cellsOf 3) = _ at c2
  rw [cellsG3] at c2
  have f3 := hf 3 _ rfl
  obtain ⟨z3, e3⟩ := g 3 (by omega)
  rw [e3] at f3
  obtain ⟨n3, c3, _, w3⟩ := DataW.trod_int Tryz.underlying3 f3
  change (cs.drop 6).take (Tryz.prog.cellsOf 3) = _ at c3
  rw [cellsG3] at c3
  have f4 := hf 4 _ rfl
  obtain ⟨z4, e4⟩ := g 4 (by omega)
  rw [e4] at f4
  obtain ⟨n4, c4, _, w4⟩ := DataW.trod_int Tryz.underlying3 f4
  change (cs.drop 7).take (Tryz.prog.cellsOf 3) = _ at c4
  rw [cellsG3] at c4
  have f5 := hf 5 _ rfl
  obtain ⟨z5, e5⟩ := g 5 (by omega)
  rw [e5] at f5
  obtain ⟨v5, l5, c5, k5, m5, r5, q5⟩ := open_rows_atG gC (Cg.OkG w) 7 gC_len (by omega) Tryz.underlying23 cellsG113 cho_elemG f5
  change (cs.drop 8).take (Tryz.prog.cellsOf 23) = _ at c5
  rw [cellsG71] at c5
  have f6 := hf 6 _ rfl
  obtain ⟨z6, e6⟩ := g 6 (by omega)
  rw [e6] at f6
  obtain ⟨v6, l6, c6, k6, m6, r6, q6⟩ := open_rows_atG kC K4.OkG 4 kC_len (by omega) Tryz.underlying24 cellsG48 key_elemG f6
  change (cs.drop 9).take (Tryz.prog.cellsOf 24) = _ at c6
  rw [cellsG27] at c6
  have f7 := hf 7 _ rfl
  obtain ⟨z7, e7⟩ := g 7 (by omega)
  rw [e7] at f7
  obtain ⟨v7, l7, c7, k7, m7, r7, q7⟩ := open_rows_atG hC (Ho.OkG w) 4 hC_len (by omega) Tryz.underlying25 cellsG166 hold_elemG f7
  change (cs.drop 10).take (Tryz.prog.cellsOf 25) = _ at c7
  rw [cellsG91] at c7
  have f8 := hf 8 _ rfl
  obtain ⟨z8, e8⟩ := g 8 (by omega)
  rw [e8] at f8
  obtain ⟨v8, l8, c8, k8, m8, r8, q8⟩ := open_rows_atG (fun n : Int => [Value.int .u8 n]) (fun n => 0 ≤ n ∧ n ≤ 255) 1 (fun _ => rfl) (by omega) Tryz.underlying26 cellsG5 byt_elemG f8
  change (cs.drop 11).take (Tryz.prog.cellsOf 26) = _ at c8
  rw [cellsG92] at c8
  refine ⟨⟨(.int .u8 fa, .int .u8 fb, .int .u8 fc, .int .u8 fd), n1, n2, n3, n4, v5, l5, v6, l6, v7, l7, v8, l8⟩, ⟨⟨⟨fa, rfl, ha⟩, ⟨fb, rfl, hb⟩, ⟨fc, rfl, hc⟩, ⟨fd, rfl, hd⟩⟩, w1, in64_ofG w2, in64_ofG w3, in64_ofG w4, r5, k5, m5, r6, k6, m6, r7, k7, m7, r8, k8, m8⟩, list_ext4 hl rfl (fun i hi => ?_)⟩
  have hi' : i = 0 ∨ i = 1 ∨ i = 2 ∨ i = 3 ∨ i = 4 ∨ i = 5 ∨ i = 6 ∨ i = 7 ∨ i = 8 ∨ i = 9 ∨ i = 10 ∨ i = 11 := by omega
  rcases hi' with rfl | rfl | rfl | rfl | rfl | rfl | rfl | rfl | rfl | rfl | rfl | rfl
  · have := take_get (i := 0) c0 (by omega); simpa [RawC.cells] using this
  · have := take_get (i := 1) c0 (by omega); simpa [RawC.cells] using this
  · have := take_get (i := 2) c0 (by omega); simpa [RawC.cells] using this
  · have := take_get (i := 3) c0 (by omega); simpa [RawC.cells] using this
  · exact one_ofG c1
  · exact one_ofG c2
  · exact one_ofG c3
  · exact one_ofG c4
  · exact one_ofG c5
  · exact one_ofG c6
  · exact one_ofG c7
  · exact one_ofG c8
set_option maxRecDepth 100000 in
theorem open_raw {r : Reach} {b0 : Nat} {v : Value} {d : DataW H} {ps : List MemPlace} (hv : Value.okWide Tryz.prog w r b0 28 v) (h : DataW.Trod enc Tryz.prog w base spare held 28 v d ps) : ∃ x : RawC, RawC.Ok w x ∧ v = .agg x.cells.toArray := by
  obtain ⟨cs, rfl, _⟩ := okWide_struct Tryz.underlying28 hv
  obtain ⟨fuel, hf⟩ := h
  obtain ⟨x, hx, hc⟩ := raw_elemG _ _ _ hf
  refine ⟨x, hx, ?_⟩
  have : cs.toList = x.cells := by simpa [Value.cells] using hc
  congr 1
  rw [← this]
end
end Go.Proofs.YtemeppfikpafbaaGreatDoor

