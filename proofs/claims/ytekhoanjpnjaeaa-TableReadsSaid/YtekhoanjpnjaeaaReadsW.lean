/- The walk of TableReads (12). -/
import Derived.Test.YtekhoanjpnjaeaaRRead
import Derived.Test.YtekhoanjpnjaeaaAwake9
import Derived.Test.YtekhoanjpnjaeaaOpenB
import Derived.Deep.DeepCutAuto
namespace Go.Proofs.Ytekhoanjpnjaeaa
open Go.RowKit
theorem slice_toB (a : Option Addr) (n cap p : Nat) (hp : p ≤ cap) (hnil : PlainA a cap) : ∀ w, (Instr.slice 80 (.slice a n cap) none (some (.int .i64 (p : Int))) none).run Try.prog w = .ok (.slice a p cap) w := by
  intro w
  rcases hnil with ⟨rfl, rfl⟩ | ⟨b, off, rfl⟩
  · obtain rfl : p = 0 := by omega
    simp [go_sem, sliced]
  · simp [go_sem, sliced]
    omega
theorem ByV.take {S : Nat → Prop} {w : World} {l : List Int} {a : Option Addr} {cap : Nat} (h : ByV S w l (.slice a l.length cap)) {p : Nat} (hp : p ≤ l.length) : ByV S w (l.take p) (.slice a p cap) := by
  obtain ⟨a', cap', e, hr, hpl⟩ := h
  cases e
  have hlen : (l.take p).length = p := by rw [List.length_take]; omega
  refine ⟨a, cap, by rw [hlen], ?_, hpl⟩
  have := hr.take hp
  rw [Nat.mul_one] at this
  rw [hlen]
  unfold bV at this ⊢
  rw [List.map_take]
  exact this
theorem bytes_nil (l : List (Int × Int)) (v : Value) (w : World) (hl : l.length < 1000000) (hasc : Asc l) (hwf : WfT l) (h : TV w l v) :
    Calls Try.prog 45 #[.agg #[v], .slice none 0 0] w fun e w' => More w w' ∧ ∃ a cap, e = .returned (.slice a (encT l).length cap) ∧ ByV (fun _ => True) w' (encT l) (.slice a (encT l).length cap) := by
  refine (bytes_tv (fun _ => True) l v [] (.slice none 0 0) w hl (by simp; omega) hasc hwf h (ByV.nil _ _)).mono ?_
  rintro e w' ⟨hm, v', rfl, ho⟩
  rw [List.nil_append] at ho
  obtain ⟨a, cap, rfl, _⟩ := owns_shape ho
  exact ⟨hm, a, cap, rfl, (ByV.of_owns ho).mono (fun _ _ => trivial)⟩
theorem encT_len {t : List (Int × Int)} (ha : Asc t) (hw : WfT t) (hl : t.length ≤ 4096) : (encT t).length ≤ 100000 := by
  unfold encT
  have h1 := encL_len t none hw ha (fun q e => by cases e)
  have h2 := encU_len t.length (by omega)
  rw [List.length_append]; omega
theorem readT_short {l : List Int} {t : List (Int × Int)} {n : Nat} {e : Int} (hB : Byts l) (h : readT l = (e, t, n)) : t.length ≤ 4096 := by
  by_cases he : e = 0
  · subst he; exact (readT_ok hB h).2.2.2.2
  · rw [(readT_err h he).1]; simp

set_option maxRecDepth 100000 in
set_option maxHeartbeats 2000000 in
theorem reads_walk (l : List Int) (v : Value) (w : World) (hl : l.length ≤ 140737488351232) (hy : Byts l) (h : ByV (fun _ => True) w l v) :
    Calls Try.prog 12 #[v] w fun e w' => e = .returned (.bool true) ∧ Below w.heap.size w w' := by
  obtain ⟨va, vc, rfl, hcap⟩ : ∃ a cap, v = .slice a l.length cap ∧ l.length ≤ cap := by
    obtain ⟨a, cap, e, hr, _⟩ := h
    obtain ⟨_, _, e2, hc⟩ := hr.shape
    rw [e] at e2; cases e2
    exact ⟨a, cap, e, hc⟩
  have HPL := Lib.hid (show PlainA va vc by obtain ⟨a, cap, e, _, hp⟩ := h; cases e; exact hp)
  have HV := Lib.hid h; clear h
  have HY := Lib.hid hy; clear hy
  have HL := Lib.hid hl; clear hl
  have HC := Lib.hid hcap; clear hcap
  obtain ⟨E, T, N, hRE⟩ : ∃ E T N, readT l = (E, T, N) := ⟨_, _, _, rfl⟩
  have HRE := Lib.hid hRE
  have HLT := Lib.hid (show T.length < 1000000 by have := readT_short HY.out HRE.out; omega)
  have HLT4 := Lib.hid (show T.length < 4294967296 by have := HLT.out; omega)
  clear hRE
  go_enter Try.func12, Try.ntmps12
  go_wp2_with fail
  refine (awake9_any _).mono ?_
  rintro e w1 ⟨rfl, hm1⟩
  have HM1 := Lib.hid hm1; clear hm1
  go_wp2_with fail
  refine (read_any _ l _ w1 (Nat.le_trans HL.out (by decide)) HY.out (HV.out.below HM1.out.below)).mono ?_
  rw [HRE.out]
  rintro e w2 ⟨hm2, tv, rfl, ht2⟩
  obtain ⟨ta, tc, rfl⟩ := ht2.shape
  have hcT : (w2.alloc (.cells #[.slice ta T.length tc] 54)).cell? ⟨w2.heap.size, 0, none⟩ = some (.slice ta T.length tc) := by go_simp
  have hm3 : More w2 (w2.alloc (.cells #[.slice ta T.length tc] 54)) := World.grownBy_alloc _ _ _
  have HQ := Lib.hid (And.intro hm2 (And.intro hm3 (And.intro hcT ht2)))
  clear hm2 hm3 hcT ht2
  simp only []
  go_wp2_with fail
  generalize w2.alloc (.cells #[.slice ta T.length tc] 54) = w3 at *
  generalize w2.heap.size = TB at *
  obtain ⟨hm2, hm3, hcT, ht2⟩ := HQ.out
  have HM3 := Lib.hid (more_trans HM1.out (more_trans hm2 hm3))
  have HT3 := Lib.hid (ht2.more hm3)
  clear HQ hm2 hm3 ht2
  refine (rread_any _ l _ w3 HL.out HY.out (HV.out.below HM3.out.below)).mono ?_
  rw [HRE.out]
  rintro e w4 ⟨hm4, rv, rfl, hr4⟩
  obtain ⟨ra, rc, rfl, _⟩ := hr4.shape
  have c4 := hm4.cell hcT
  have HM4 := Lib.hid (more_trans HM3.out hm4)
  have HT4 := Lib.hid (HT3.out.more hm4)
  have HR4 := Lib.hid hr4
  clear hm4 hcT hr4 HM3 HT3
  simp only [] at HR4
  simp only []
  have tE : (E != E) = false := by simp
  have tN : ((N : Int) != (N : Int)) = false := by simp
  go_wp2_with fail
  refine (told_tv T _ w4 HLT.out HT4.out).mono ?_
  rintro e w5 ⟨hm5, v5, rfl, hr5⟩
  obtain ⟨a5, c5', rfl, _⟩ := hr5.shape
  have c5 := hm5.cell c4
  have HM5 := Lib.hid (more_trans HM4.out hm5)
  have HT5 := Lib.hid (HT4.out.more hm5)
  have HR5 := Lib.hid hr5
  have HW5 := Lib.hid (HR4.out.below hm5.below)
  clear hm5 hr5 c4 HM4 HT4 HR4
  go_wp2_with fail
  refine (rsame_any (fun _ => True) (fun _ => True) T T _ _ w5 HLT4.out HLT4.out HR5.out HW5.out).mono ?_
  rw [decide_eq_true (rfl : T = T)]
  rintro e w6 ⟨rfl, n6, hn6⟩
  have hm6 : More w5 w6 := by subst hn6; exact more_drewN _ _
  have HM6 := Lib.hid (more_trans HM5.out hm6)
  have HT6 := Lib.hid (HT5.out.more hm6)
  have c6 := hm6.cell c5
  clear hn6 hm6 c5 HM5 HT5 HR5 HW5
  go_wp2_with fail
  by_cases hE : E = 0
  · subst hE
    have HOK := Lib.hid (readT_ok HY.out HRE.out)
    have hNl := HOK.out.1
    have hsl := slice_toB va l.length vc N (by have := HC.out; omega) HPL.out
    have HX := Lib.hid (show ∀ W, More w6 W → W.cell? ⟨TB, 0, none⟩ = some (.slice ta T.length tc) from fun W hm => hm.cell c6)
    clear c6
    have KD := HX.out w6.drew (more_drew w6)
    have HV6 := Lib.hid (HV.out.below HM6.out.below)
    have HLE := Lib.hid (show (encT T).length ≤ 140737488355328 by have := encT_len HOK.out.2.2.1 HOK.out.2.2.2.1 HOK.out.2.2.2.2; omega)
    clear hNl
    go_region_held3 (fun W => W.cell? ⟨TB, 0, none⟩ = some (.slice ta T.length tc)) (first | with_reducible exact KD | exact KD | with_reducible exact K11 | with_reducible exact K12) (first | (go_at_call 46; refine (bsame_any (fun _ => True) (fun _ => True) (encT T) (l.take N) _ _ _ HLE.out (by rw [HOK.out.2.1]; exact HLE.out) HT11.out ((HV6.out.below HM11.out.below).take HOK.out.1)).mono ?_; rw [decide_eq_true HOK.out.2.1.symm]; rintro e w9 ⟨rfl, n12, hn12⟩; have hm : More w11 w9 := (by (subst hn12; exact more_drewN _ _)); clear hn12; have HM12 := Lib.hid (more_trans HM11.out hm); have K12 := HX.out w9 HM12.out; have Hm12 := Lib.hid hm; clear hm) | (go_at_call 45; refine (bytes_nil T _ _ HLT.out HOK.out.2.2.1 HOK.out.2.2.2.1 (HT6.out.more (more_drew w6))).mono ?_; rintro e w11 ⟨hm, q11, c11, rfl, ht⟩; have HT11 := Lib.hid ht; clear ht; have HM11 := Lib.hid (more_trans (more_drew w6) hm); have K11 := HX.out w11 HM11.out; have Hm11 := Lib.hid hm; clear hm))
    go_wp2_with fail
    go_ret
    exact ⟨rfl, (more_trans HM6.out HM12.out).below⟩
  · have t0 : (E != 0) = true := by simpa using hE
    clear hE
    go_quiet (fail)
    go_wp2_with fail
    go_ret
    exact ⟨rfl, (more_trans HM6.out (more_drewN _ _)).below⟩
end Go.Proofs.Ytekhoanjpnjaeaa

