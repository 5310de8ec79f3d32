/- Texts MkB, laid together. -/
import Derived.Test.YtekhoanjpnjaeaaNp
/- (*maker).integer (157). -/
namespace Go.Proofs.Ytekhoanjpnjaeaa
open Go.RowKit
theorem MkAt.c0 {W : World} {MB : Nat} {d : MkD} {prm left : Int} {l : List Int} (h : MkAt W MB d prm left l) : W.cell? ⟨MB, 0, none⟩ = some (.int .i64 d.ints) ∧ W.cell? ⟨MB, 1, none⟩ = some (.int .i64 d.tables) ∧ W.cell? ⟨MB, 2, none⟩ = some (.int .i64 d.flags) ∧ W.cell? ⟨MB, 5, none⟩ = some (.int .i64 prm) := by
  obtain ⟨a, cap, h1, _⟩ := h.ex
  exact ⟨by simp [World.cell?, h1, mkC], by simp [World.cell?, h1, mkC], by simp [World.cell?, h1, mkC], by simp [World.cell?, h1, mkC]⟩
theorem nextB_rng (l : List Int) {n : Int} (hn : 0 < n) : 0 ≤ (nextB l n).1 ∧ (nextB l n).1 < n := by
  unfold nextB
  cases l with
  | nil => exact ⟨Int.le_refl _, hn⟩
  | cons b r => exact ⟨Int.emod_nonneg _ (by omega), Int.emod_lt_of_pos _ hn⟩
theorem grow_more {w w' : World} {B : Nat} (h : More w w') : w.grownBy w' (some B) := ⟨h.os, h.tape, h.output, h.size, fun _k hk _ => h.block hk⟩
theorem grow_trans {a b c : World} {B : Nat} (h : a.grownBy b (some B)) (k : b.grownBy c (some B)) : a.grownBy c (some B) := ⟨k.os.trans h.os, k.tape.trans h.tape, k.output.trans h.output, Nat.le_trans h.size k.size, fun j hj hn => (k.block j (Nat.lt_of_lt_of_le hj h.size) hn).trans (h.block j hj hn)⟩
set_option maxRecDepth 100000 in
set_option maxHeartbeats 2000000 in
theorem integer_any (MB : Nat) (d : MkD) (prm left : Int) (l : List Int) (w : World) (h : MkAt w MB d prm left l) (hi : 0 < d.ints) (hi3 : d.ints ≤ 3) :
    Calls Try.prog 157 #[.pointer (some ⟨MB, 0, none⟩)] w fun e w' => e = .returned (.string (nmB 120 (nextB l d.ints).1.toNat)) ∧ MkAt w' MB d prm left (nextB l d.ints).2 ∧ w.grownBy w' (some MB) := by
  have HM := Lib.hid h; clear h
  have HI := Lib.hid (And.intro hi hi3); clear hi hi3
  obtain ⟨iv, HIV⟩ : ∃ i, Hid (d.ints = i) := ⟨_, Lib.hid rfl⟩
  have HMd := Lib.hid (HM.out.more (more_drew w))
  have HWD := Lib.hid (more_drew w)
  have HK := Lib.hid (show ∀ W l', MkAt W MB d prm left l' → W.cell? ⟨MB, 0, none⟩ = some (.int .i64 iv) from fun W l' h => by rw [← HIV.out]; exact h.c0.1)
  go_enter Try.func157, Try.ntmps157
  go_upto_region 1 with fail
  refine wp_region_heldP (S := fun W => W.cell? ⟨MB, 0, none⟩ = some (.int .i64 iv)) 6 (by kernel_rfl) ?_
  generalize w.drew = wd at *
  refine tkS (i := 1) (v := ?_) (by simp only [opA, opS, op0]; exact rfl) (by kernel_rfl) (by kernel_rfl) (HK.out _ _ HMd.out) ?_ ?_
  rotate_left
  · intro w hS
    (try dsimp only at hS); first | (go_simp; done) | (go_simp; with_reducible rfl)
  (try simp only [ptS, stA, st0, stS])
  refine tkW (i := 2) (v := ?_) (by simp only [opA, opS, op0]; exact rfl) (by kernel_rfl) (by kernel_rfl) (fun _ => (HK.out _ _ HMd.out)) ?_ ?_
  rotate_left
  · intro w hS
    first | (go_simp; done) | (go_simp; with_reducible rfl)
  (try simp only [ptS, stA, st0, stS])
  refine tkW (i := 3) (v := ?_) (by simp only [opA, opS, op0]; exact rfl) (by kernel_rfl) (by kernel_rfl) (fun _ => (HK.out _ _ HMd.out)) ?_ ?_
  rotate_left
  · intro w hS
    first | (go_simp; done) | (go_simp; with_reducible rfl)
  (try simp only [ptS, stA, st0, stS])
  refine tkW (i := 4) (v := ?_) (by simp only [opA, opS, op0]; exact rfl) (by kernel_rfl) (by kernel_rfl) (fun _ => (HK.out _ _ HMd.out)) ?_ ?_
  rotate_left
  · intro w hS
    first | (go_simp; done) | (go_simp; with_reducible rfl)
  (try simp only [ptS, stA, st0, stS])
  refine tkS (i := 5) (v := ?_) (by simp only [opA, opS, op0]; exact rfl) (by kernel_rfl) (by kernel_rfl) (HK.out _ _ HMd.out) ?_ ?_
  rotate_left
  · intro w hS
    (try dsimp only at hS); first | (go_simp; done) | (go_simp; with_reducible rfl)
  (try simp only [ptS, stA, st0, stS])
  refine wpAnyP_ready (rs := [0]) (by kernel_rfl) (by simp) ?_
  refine (AllReadyP.cons (by simp only [opA, op0]; exact rfl) (fun K hK => ?_) AllReadyP.nil)
  rw [if_pos (by kernel_rfl)]
  have HC := Lib.hid (names_any 120 3 120 3 wd rfl rfl (by omega) (by omega))
  go_simp
  refine HC.out.mono ?_
  rintro e w1 ⟨⟨v1, rfl, ho⟩, hm⟩
  have HO1 := Lib.hid ho
  have HM1 := Lib.hid hm
  obtain ⟨oa, oc, rfl, _⟩ := owns_shape ho
  clear ho hm HC
  have HMa := Lib.hid (HMd.out.more HM1.out)
  try go_wp2_with fail
  refine hK.out _ _ (fun _ => (HK.out _ _ HMa.out)) ?_
  clear hK K
  (try simp only [ptS, stA, st0, stS])
  refine wpAnyP_ready (rs := [6]) (by kernel_rfl) (by simp) ?_
  refine (AllReadyP.cons (by simp only [opA, opS, op0]; exact rfl) (fun K hK => ?_) AllReadyP.nil)
  rw [if_pos (by kernel_rfl)]
  have HC := Lib.hid (next_any MB d prm left iv l w1 HMa.out (by rw [← HIV.out]; exact HI.out.1) (by rw [← HIV.out]; have := HI.out.2; omega))
  have HR := Lib.hid (show 0 ≤ (nextB l iv).1 ∧ (nextB l iv).1 < 3 from by have h1 := nextB_rng l (n := iv) (by rw [← HIV.out]; exact HI.out.1); have h2 := HI.out.2; have h3 := HIV.out; omega)
  obtain ⟨r, HRR⟩ : ∃ r : Nat, Hid ((nextB l iv).1 = r) := ⟨(nextB l iv).1.toNat, Lib.hid (by have := HR.out; omega)⟩
  rw [HRR.out] at HC HR
  go_simp
  refine HC.out.mono ?_
  rintro e w2 ⟨rfl, hmk, hg⟩
  have HMb := Lib.hid hmk
  have HG2 := Lib.hid hg
  clear hmk hg HC
  have hr3 : r < 3 := by have := HR.out; omega
  have hr3i : (r : Int) < 3 := by omega
  have HO2 := Lib.hid (owns_keep HO1.out (fun z hz => HG2.out.block z (HO1.out.lt z hz).2 (fun e => by have := (HO1.out.lt z hz).1; have := HMd.out.lt; injection e with e; omega)))
  obtain ⟨b, off, hbo, _, _, hc⟩ := (Row.of_owns HO2.out).at (by omega)
  subst hbo
  have e0 : w2.cell? ⟨b, off + r, none⟩ = some (.string (nmB 120 r)) := by
    have h := hc r (.string (nmB 120 r)) (by unfold namesL; simp [hr3])
    simpa using h
  clear hc
  have hbe := cell_lt e0
  have HKE := Lib.hid (show w2.cell? ⟨MB, 0, none⟩ = some (.int .i64 iv) ∧ w2.cell? ⟨b, off + r, none⟩ = some (.string (nmB 120 r)) from ⟨HK.out _ _ HMb.out, e0⟩)
  try go_wp2_with fail
  refine hK.out _ _ (gone (by kernel_rfl)) ?_
  clear hK K
  (try simp only [ptS, stA, st0, stS])
  refine tkW (i := 7) (v := ?_) (by simp only [opA, opS, op0]; exact rfl) (by kernel_rfl) (by kernel_rfl) (gone (by kernel_rfl)) ?_ ?_
  rotate_left
  · intro w hS
    first | (go_simp; done) | (go_simp; with_reducible rfl)
  (try simp only [ptS, stA, st0, stS])
  refine wpAnyP_ready (rs := [8]) (by kernel_rfl) (by simp) ?_
  refine (AllReadyP.cons (by simp only [opA, opS, op0]; exact rfl) (fun K hK => ?_) AllReadyP.nil)
  rw [if_pos (by kernel_rfl)]
  go_simp
  refine hK.out _ _ (gone (by kernel_rfl)) ?_
  clear hK K
  (try simp only [ptS, stA, st0, stS])
  refine tkW (i := 9) (v := ?_) (by simp only [opA, opS, op0]; exact rfl) (by kernel_rfl) (by kernel_rfl) (gone (by kernel_rfl)) ?_ ?_
  rotate_left
  · intro w hS
    first | (go_simp; done) | (go_simp; with_reducible rfl)
  (try simp only [ptS, stA, st0, stS])
  refine wpAnyP_done (by kernel_rfl) ?_ _
  go_wp2_with fail
  go_ret
  exact ⟨by rw [HIV.out, HRR.out]; rfl, by rw [HIV.out]; exact HMb.out, grow_trans (grow_more (more_trans HWD.out HM1.out)) HG2.out⟩
end Go.Proofs.Ytekhoanjpnjaeaa

