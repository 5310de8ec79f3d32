/- rootcauselaw09.awake (29): it returns true. -/
import Derived.Test.YtekhoanjpnjaeaaTV
namespace Go.Proofs.Ytekhoanjpnjaeaa
open Go.RowKit

def exL : List (Int × Int) := [(5, 1), (2, 7), (5, 3)]
def exT : List (Int × Int) := [(2, 7), (5, 3)]
theorem ex_of : ofL exL = exT := by decide
theorem ex_del : delL exT 5 = [(2, 7)] := by decide
theorem ex_put : putL [(2, 7)] (-1) 0 = [(-1, 0), (2, 7)] := by decide
theorem ex_diff : mergeD exT [(-1, 0), (2, 7)] = [-1, 5] := by simp [exT, mergeD]
theorem ex_enc : encT exT = [2, 4, 14, 2, 6] := by
  show encU 2 ++ ((encU (zz 2) ++ encU (zz 7)) ++ ((encU (5 - 2 - 1 : Int).toNat ++ encU (zz 3)) ++ [])) = _
  rw [show zz 2 = 4 by decide, show zz 7 = 14 by decide, show zz 3 = 6 by decide, show (5 - 2 - 1 : Int).toNat = 2 by decide, encU_lt (v := 2) (by decide), encU_lt (v := 4) (by decide), encU_lt (v := 14) (by decide), encU_lt (v := 6) (by decide)]
  decide
theorem ex_asc : Asc exT := by unfold Asc exT; simp
theorem ex_asc1 : Asc [((2 : Int), (7 : Int))] := by unfold Asc; simp
theorem ex_wf : WfT exT := by unfold WfT exT I64; simp

/-- What stays so between the calls. -/
structure AwInv (w : World) (tb ub : Nat) (vt vu : Value) (T U : List (Int × Int)) (W : World) : Prop where
  more : More w W
  tbox : W.heap[tb]? = some (.cells #[vt] 54)
  ubox : W.heap[ub]? = some (.cells #[vu] 54)
  tT : TV W T vt
  tU : TV W U vu
theorem AwInv.step {w : World} {tb ub : Nat} {vt vu : Value} {T U : List (Int × Int)} {W W' : World} (h : AwInv w tb ub vt vu T U W) (hm : More W W') : AwInv w tb ub vt vu T U W' :=
  ⟨more_trans h.more hm, (hm.block (Array.getElem?_eq_some_iff.1 h.tbox).1).trans h.tbox, (hm.block (Array.getElem?_eq_some_iff.1 h.ubox).1).trans h.ubox, h.tT.more hm, h.tU.more hm⟩
theorem AwInv.ct {w : World} {tb ub : Nat} {vt vu : Value} {T U : List (Int × Int)} {W : World} (h : AwInv w tb ub vt vu T U W) : W.cell? ⟨tb, 0, none⟩ = some vt := by simp [World.cell?, h.tbox]
theorem AwInv.cu {w : World} {tb ub : Nat} {vt vu : Value} {T U : List (Int × Int)} {W : World} (h : AwInv w tb ub vt vu T U W) : W.cell? ⟨ub, 0, none⟩ = some vu := by simp [World.cell?, h.ubox]
theorem more_alloc (w : World) (o : Obj) : More w (w.alloc o) := World.grownBy_alloc w o none
theorem more_drewN (w : World) (n : Nat) : More w (w.drewN n) := grownBy_drewN w n none

set_option maxRecDepth 100000 in
set_option maxHeartbeats 2000000 in
theorem awake9_any (w : World) : Calls Try.prog 29 #[] w fun e w' => e = .returned (.bool true) ∧ More w w' := by
  go_enter Try.func29, Try.ntmps29
  go_wp2_with fail
  generalize hw1 : w.alloc (.cells #[.int .i64 5, .int .i64 1, .int .i64 2, .int .i64 7, .int .i64 5, .int .i64 3] 66) = w1
  have hm1 : More w w1 := by rw [← hw1]; exact World.grownBy_alloc _ _ _
  have hR1 : Row (fun _ => True) w1 2 exL.length (.slice (some ⟨w.heap.size, 0, none⟩) 3 3) (flat2 exL) := by rw [← hw1]; exact row_blk (alloc_last _ _) rfl rfl (Nat.le_refl _) trivial
  clear hw1
  have HM1 := Lib.hid hm1; clear hm1
  have HR1 := Lib.hid hR1; clear hR1
  refine (of_tv sort20 (fun _ => True) exL _ w1 (by decide) (by decide) HR1.out).mono ?_
  rintro e w2 ⟨hm2, v2, rfl, ht2⟩
  rw [ex_of] at ht2
  obtain ⟨a2, c2, rfl⟩ := ht2.shape
  have HM2 := Lib.hid (more_trans HM1.out hm2)
  have HT2 := Lib.hid ht2
  clear hm2 ht2 HR1 HM1
  obtain ⟨T, hT⟩ : ∃ T, exT = T := ⟨_, rfl⟩
  rw [hT] at HT2
  rw [hT]
  have HT := Lib.hid hT; clear hT
  have HTA := Lib.hid (show Asc T by rw [← HT.out]; exact ex_asc)
  have HTL := Lib.hid (show T.length = 2 by rw [← HT.out]; rfl)
  have hTl : T.length < 1000000 := by rw [HTL.out]; decide
  have t1 : ((T.length : Int) == 2) = true := by rw [HTL.out]; decide
  go_wp2_with fail
  generalize hw3 : w2.alloc (.cells #[.slice a2 T.length c2] 54) = w3
  have hm3 : More w2 w3 := by rw [← hw3]; exact World.grownBy_alloc _ _ _
  have x3 : w3.heap[w2.heap.size]? = some (.cells #[.slice a2 T.length c2] 54) := by rw [← hw3]; exact alloc_last _ _
  clear hw3
  refine (del_tab T 5 _ w3 hTl HTA.out (HT2.out.more hm3)).mono ?_
  rintro e w4 ⟨hm4, v4, rfl, ht4⟩
  rw [show delL T 5 = [(2, 7)] by rw [← HT.out]; exact ex_del] at ht4
  obtain ⟨a4, c4, rfl⟩ := ht4.shape
  have x4 := (hm4.block (Array.getElem?_eq_some_iff.1 x3).1).trans x3
  have HM24 := Lib.hid (more_trans hm3 hm4)
  have HM4 := Lib.hid (more_trans HM2.out HM24.out)
  have HX4 := Lib.hid x4
  have HT4 := Lib.hid ht4
  clear hm3 x3 hm4 ht4 x4
  go_wp2_with fail
  refine (put_tab [(2, 7)] (-1) 0 _ w4 (by decide) ex_asc1 HT4.out).mono ?_
  rintro e w5 ⟨hm5, v5, rfl, ht5⟩
  rw [ex_put] at ht5
  have hbt := (Array.getElem?_eq_some_iff.1 HX4.out).1
  have HX5 := Lib.hid ((hm5.block hbt).trans HX4.out)
  have HM5 := Lib.hid (more_trans HM4.out hm5)
  obtain ⟨U, hU⟩ : ∃ U : List (Int × Int), [(-1, 0), (2, 7)] = U := ⟨_, rfl⟩
  rw [hU] at ht5
  have HU := Lib.hid hU; clear hU
  have hUl : U.length < 1000000 := by rw [← HU.out]; decide
  have HT2b := Lib.hid (HT2.out.more (show More w2 w5 from more_trans (show More w2 w4 from HM24.out) hm5))
  obtain ⟨a5, c5, rfl⟩ := ht5.shape
  have HT5 := Lib.hid ht5
  have hz5 : w2.heap.size < w5.heap.size := Nat.lt_of_lt_of_le hbt hm5.size
  have b5 : w5.cell? ⟨w2.heap.size, 0, none⟩ = some (.slice a2 T.length c2) := by simp [World.cell?, HX5.out]
  clear hm5 ht5 hbt
  go_wp2_with fail
  have HI6 := Lib.hid (show AwInv w w2.heap.size w5.heap.size (.slice a2 T.length c2) (.slice a5 U.length c5) T U (w5.alloc (.cells #[.slice a5 U.length c5] 54)) from ⟨more_trans HM5.out (more_alloc _ _), (Below.heap_alloc _ _ _ hz5).trans HX5.out, alloc_last _ _, HT2b.out.more (more_alloc _ _), HT5.out.more (more_alloc _ _)⟩)
  obtain ⟨tb, htb⟩ : ∃ tb, tb = w2.heap.size := ⟨_, rfl⟩
  obtain ⟨ub, hub⟩ : ∃ ub, ub = w5.heap.size := ⟨_, rfl⟩
  generalize w5.alloc (.cells #[.slice a5 U.length c5] 54) = w6 at *
  refine (diff_tv T U _ _ w6 hTl hUl HI6.out.tT HI6.out.tU).mono ?_
  rw [show mergeD T U = [-1, 5] by rw [← HT.out, ← HU.out]; exact ex_diff]
  rintro e w7 ⟨hm7, v7, rfl, hr7⟩
  obtain ⟨da, dc, rfl, _⟩ := hr7.shape
  obtain ⟨db, doff, rfl, _, _, hcd⟩ := hr7.at (by decide)
  have d0 : w7.cell? ⟨db, doff + 0, none⟩ = some (.int .i64 (-1)) := hcd 0 _ rfl
  have d1 : w7.cell? ⟨db, doff + 1, none⟩ = some (.int .i64 5) := hcd 1 _ rfl
  rw [Nat.add_zero] at d0
  have HD := Lib.hid (fun (W : World) (hm : More w7 W) => show W.cell? ⟨db, doff, none⟩ = some (.int .i64 (-1)) ∧ W.cell? ⟨db, doff + 1, none⟩ = some (.int .i64 5) from ⟨hm.cell d0, hm.cell d1⟩)
  have HI7 := Lib.hid (HI6.out.step hm7)
  have ct7 := HI7.out.ct
  rw [show ([-1, 5] : List Int).length = 2 from rfl]
  clear hm7 hr7 hcd d0 d1 HI6 b5 hz5 HX5 HT2b HT5 HM5 HX4 HT4 HM4 HM24 HT2 HM2
  clear htb hub
  go_wp2_with fail
  refine (len_tv T _ w7 HI7.out.tT).mono ?_
  rintro e w8 ⟨hm8, rfl⟩
  have HI8 := Lib.hid (HI7.out.step hm8)
  have HM8 := Lib.hid hm8
  have cu8 := HI8.out.cu
  have ct8 := HI8.out.ct
  clear hm8 ct7 HI7
  go_wp2_with fail
  refine (told_tv U _ w8 hUl HI8.out.tU).mono ?_
  rintro e w9 ⟨hm9, v9, rfl, hr9⟩
  obtain ⟨oa9, oc9, rfl, _⟩ := hr9.shape
  have HI9 := Lib.hid (HI8.out.step hm9)
  have HM9 := Lib.hid (more_trans HM8.out hm9)
  have HR9 := Lib.hid hr9
  clear hm9 hr9 ct8 cu8 HI8 HM8
  go_wp2_with fail
  generalize hw10 : w9.alloc (.cells #[.int .i64 (-1), .int .i64 0, .int .i64 2, .int .i64 7] 66) = w10
  have hm10 : More w9 w10 := by rw [← hw10]; exact more_alloc _ _
  have hr10 : Row (fun _ => True) w10 2 2 (.slice (some ⟨w9.heap.size, 0, none⟩) 2 2) (flat2 [(-1, 0), (2, 7)]) := by rw [← hw10]; exact row_blk (alloc_last _ _) rfl rfl (Nat.le_refl _) trivial
  clear hw10
  refine (rsame_any (fun _ => True) (fun _ => True) U [(-1, 0), (2, 7)] _ _ w10 (by omega) (by decide) (HR9.out.below hm10.below) hr10).mono ?_
  rw [show decide (U = [(-1, 0), (2, 7)]) = true from decide_eq_true HU.out.symm]
  rintro e w11 ⟨rfl, n11, hn11⟩
  have hm11 : More w9 w11 := by rw [hn11]; exact more_trans hm10 (more_drewN _ _)
  have HI11 := Lib.hid (HI9.out.step hm11)
  have HM11 := Lib.hid (more_trans HM9.out hm11)
  have ct11 := HI11.out.ct
  clear hn11 hm10 hr10 hm11 HI9 HM9 HR9
  go_wp2_with fail
  refine (told_tv T _ w11 hTl HI11.out.tT).mono ?_
  rintro e w12 ⟨hm12, v12, rfl, hr12⟩
  obtain ⟨oa12, oc12, rfl, _⟩ := hr12.shape
  have HI12 := Lib.hid (HI11.out.step hm12)
  have HM12 := Lib.hid (more_trans HM11.out hm12)
  have HR12 := Lib.hid hr12
  clear hm12 hr12 ct11 HI11 HM11
  go_wp2_with fail
  generalize hw13 : w12.alloc (.cells #[.int .i64 2, .int .i64 7, .int .i64 5, .int .i64 3] 66) = w13
  have hm13 : More w12 w13 := by rw [← hw13]; exact more_alloc _ _
  have hr13 : Row (fun _ => True) w13 2 2 (.slice (some ⟨w12.heap.size, 0, none⟩) 2 2) (flat2 [(2, 7), (5, 3)]) := by rw [← hw13]; exact row_blk (alloc_last _ _) rfl rfl (Nat.le_refl _) trivial
  clear hw13
  refine (rsame_any (fun _ => True) (fun _ => True) T [(2, 7), (5, 3)] _ _ w13 (by omega) (by decide) (HR12.out.below hm13.below) hr13).mono ?_
  rw [show decide (T = [(2, 7), (5, 3)]) = true from decide_eq_true HT.out.symm]
  rintro e w14 ⟨rfl, n14, hn14⟩
  have hm14 : More w12 w14 := by rw [hn14]; exact more_trans hm13 (more_drewN _ _)
  have HI14 := Lib.hid (HI12.out.step hm14)
  have HM14 := Lib.hid (more_trans HM12.out hm14)
  have ct14 := HI14.out.ct
  obtain ⟨d0, d1⟩ := HD.out w14 HM14.out
  clear hn14 hm13 hr13 hm14 HI12 HM12 HR12
  go_wp2_with fail
  refine (bytes_tv (fun _ => True) T _ [] _ w14 hTl (by have := hTl; simp; omega) HTA.out (by rw [← HT.out]; exact ex_wf) HI14.out.tT (ByV.nil _ _)).mono ?_
  rw [show [] ++ encT T = [2, 4, 14, 2, 6] by rw [List.nil_append, ← HT.out]; exact ex_enc]
  rintro e w15 ⟨hm15, v15, rfl, ho15⟩
  have HBY := Lib.hid (ByV.of_owns ho15)
  obtain ⟨a15, c15, rfl, _⟩ := owns_shape ho15
  have HI15 := Lib.hid (HI14.out.step hm15)
  clear hm15 ho15 ct14 d0 d1 HI14 HM14
  rw [show ([2, 4, 14, 2, 6] : List Int).length = 5 from rfl]
  go_wp2_with fail
  generalize hw16 : w15.alloc (.cells #[.int .u8 2, .int .u8 4, .int .u8 14, .int .u8 2, .int .u8 6] 5) = w16
  have hm16 : More w15 w16 := by rw [← hw16]; exact more_alloc _ _
  have hr16 : ByV (fun _ => True) w16 [2, 4, 14, 2, 6] (.slice (some ⟨w15.heap.size, 0, none⟩) 5 5) := by rw [← hw16]; exact ⟨_, _, rfl, row_blk (alloc_last _ _) rfl rfl (Nat.le_refl _) trivial, Or.inr ⟨_, _, rfl⟩⟩
  clear hw16
  refine (bsame_any _ (fun _ => True) [2, 4, 14, 2, 6] [2, 4, 14, 2, 6] _ _ w16 (by decide) (by decide) (HBY.out.below hm16.below) hr16).mono ?_
  rintro e w17 ⟨rfl, n17, hn17⟩
  have HM17 := Lib.hid (show More w w17 by rw [hn17]; exact more_trans HI15.out.more (more_trans hm16 (more_drewN _ _)))
  clear hn17 hm16 hr16
  go_wp2_with fail
  go_ret
  exact ⟨rfl, HM17.out⟩
end Go.Proofs.Ytekhoanjpnjaeaa
