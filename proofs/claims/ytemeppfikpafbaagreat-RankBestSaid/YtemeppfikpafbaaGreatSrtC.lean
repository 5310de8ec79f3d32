/- Sorting of at most 12 keys (231) or messages (124) by the orders' compare; (order).sorted (188, 192). -/
import Derived.Test.YtemeppfikpafbaaGreatOrdC
import Derived.Test.YtemeppfikpafbaaGreatInsK
import Derived.Test.YtemeppfikpafbaaGreatInsM
import Derived.StillTailTactics
namespace Go.Proofs.YtemeppfikpafbaaGreat
open Go.RowKit Go.Sort Go.Shelf
theorem flatC_inv {α : Type} {c : α → List Value} {k : Nat} (hc : ∀ x, (c x).length = k) : ∀ (l : List α) (j : Nat) (u : Value), (flatC c l)[j]? = some u → ∃ i r, ∃ h : i < l.length, r < k ∧ j = i * k + r ∧ (c l[i])[r]? = some u
  | [], j, u, h => by simp [flatC] at h
  | x :: xs, j, u, h => by
    unfold flatC at h
    rw [List.flatMap_cons] at h
    by_cases hj : j < k
    · rw [List.getElem?_append_left (by rw [hc]; exact hj)] at h
      exact ⟨0, j, by simp, hj, by simp, by simpa using h⟩
    · rw [List.getElem?_append_right (by rw [hc]; omega), hc] at h
      obtain ⟨i, r, hi, hr, hjr, hu⟩ := flatC_inv hc xs _ u h
      exact ⟨i + 1, r, by simpa using hi, hr, by rw [Nat.add_mul]; omega, by simpa using hu⟩
section
variable {α : Type} [Inhabited α] {c : α → List Value} {k : Nat}
/-- An own row may be written in place. -/
theorem holdC_of {w : World} {g : Nat} {cur : Array Value} {T : TypeId} {l : List α} (hc : ∀ x, (c x).length = k) (hg : w.heap[g]? = some (.cells cur T)) (htk : cur.toList.take (l.length * k) = flatC c l) : HoldC c k w g 0 l.toArray := by
  intro i hi j u hj
  have hi' : i < l.length := by simpa using hi
  have e : l.toArray[i]! = l[i] := by simp [hi']
  rw [e] at hj
  have h1 := flatC_get hc l i hi' j u hj
  rw [← htk, List.getElem?_take] at h1
  split at h1
  · rw [Array.getElem?_toList] at h1
    rw [Nat.zero_add]
    exact ⟨cell_of_blk hg h1, thaw hg _⟩
  · cases h1
/-- A row that was written in place is a row. -/
theorem row_hold {S : Nat → Prop} {w : World} {g cap : Nat} {l : List α} (hc : ∀ x, (c x).length = k) (h : HoldC c k w g 0 l.toArray) (hS : S g) (hcap : l.length ≤ cap) : Row S w k l.length (.slice (some ⟨g, 0, none⟩) l.length cap) (flatC c l) := by
  refine ⟨flatC_len hc l, some ⟨g, 0, none⟩, cap, rfl, hcap, fun _ => ⟨g, 0, rfl, hS, fun j u hj => ?_⟩⟩
  obtain ⟨i, r, hi, hr, rfl, hu⟩ := flatC_inv hc l j u hj
  have e : l.toArray[i]! = l[i] := by simp [hi]
  have := (h i (by simpa using hi) r u (by rw [e]; exact hu)).1
  rw [Nat.zero_add] at this ⊢
  exact this
theorem ins_sorted {cf : α → α → Int} (hO : SWO (ltOf cf)) (hT : ∀ x y, (ltOf cf) x y = false → (ltOf cf) y x = false → x = y) (l : List α) : insertionSort (ltOf cf) l.toArray 0 l.length = (l.mergeSort fun x y => !(ltOf cf) y x).toArray := by
  obtain ⟨h1, h2⟩ := insertionSort_holds hO l.toArray 0 l.length (Nat.zero_le _) (by simp)
  have h3 := sorted_unique_holds hO hT l.toArray (insertionSort (ltOf cf) l.toArray 0 l.length) (by simpa using h1) (by simpa using h2)
  rw [← Array.toList_inj, h3]
end
theorem sgnM_eq (x y : M3) : sgnM x y < 0 ↔ cmpM3 x y < 0 := by
  unfold sgnM
  by_cases h1 : cmpM3 x y < 0
  · simp [h1]
  · rw [if_neg h1]
    by_cases h2 : cmpM3 y x < 0 <;> simp [h1, h2]
theorem sgnM_by : CmpBy sgnM ltM := ⟨fun x y => (sgnM_eq x y).trans (cmpM_by.neg x y), cmpM_by.irrefl, cmpM_by.trans, cmpM_by.tri⟩
theorem kC_oneL (l : List K4) : ∀ u ∈ flatC kC l, u.oneCell' = true := by
  intro u hu
  unfold flatC at hu
  obtain ⟨x, _, hx⟩ := List.mem_flatMap.1 hu
  simp [kC] at hx
  rcases hx with rfl | rfl | rfl | rfl <;> rfl
def srtSK (l : List K4) : List K4 := l.mergeSort fun x y => !(ltOf sgnK) y x
def srtSM (l : List M3) : List M3 := l.mergeSort fun x y => !(ltOf sgnM) y x
theorem srtSK_len (l : List K4) : (srtSK l).length = l.length := List.length_mergeSort _
theorem srtSM_len (l : List M3) : (srtSM l).length = l.length := List.length_mergeSort _
set_option maxRecDepth 100000 in
set_option maxHeartbeats 1000000 in
theorem cloneK_own (l : List K4) (v : Value) (w : World) (hl : l.length ≤ 1000000) (h : Row anyB w 4 l.length v (flatC kC l)) (hn : NilA v) :
    Calls Tryz.prog 22 #[v] w fun e w' => (∃ v', e = .returned v' ∧ w'.ownsRow w.heap.size 54 4 v' l.length (flatC kC l)) ∧ Below w.heap.size w w' := by
  obtain ⟨a, cap, rfl, _⟩ := h.shape
  obtain ⟨i0, hi0, hz0, hz1, hz2⟩ := info_parts info48
  have hq := fun W => Lib.run_eql_slice_nil (P := Tryz.prog) W 31 54 a l.length cap 0 0 Tryz.underlying31
  cases a with
  | none =>
    obtain rfl := hn _ _ rfl
    have HR := Lib.hid h; clear h
    go_enter Tryz.func22, Tryz.ntmps22
    go_wp2_with fail
    go_ret
    have e0 : l = [] := by
      cases l with
      | nil => rfl
      | cons x r => obtain ⟨_, _, he, _⟩ := HR.out.at (by simp); cases he
    subst e0
    exact ⟨⟨_, rfl, World.ownsRow_nil _ _ _ _⟩, Below.refl _ _⟩
  | some ta =>
    have HR := Lib.hid h; clear h
    have HM := Lib.hid (more_alloc w (.cells #[] 54))
    have HN := Lib.hid (row_news kC_len (HR.out.below HM.out.below))
    have HO := Lib.hid (ownsRow_empty w 54 4)
    have HB := Lib.hid ((Below.refl w.heap.size w).alloc (Nat.le_refl _) (.cells #[] 54))
    have hm1 : 0 + l.length ≤ maxLen := by unfold maxLen; omega
    have hm2 : (0 + l.length) * 32 ≤ 140737488355328 := by omega
    go_enter Tryz.func22, Tryz.ntmps22
    go_wp2_with (at_builtin; refine wpList_append_own _ rfl _ _ 31 rfl w.heap.size 54 i0 _ 4 32 Tryz.underlying31 hi0 hz0 hz1 hz2 rfl (by omega) (.slice (some ⟨w.heap.size, 0, none⟩) 0 0) 0 [] rfl HO.out ta l.length cap (flatC kC l) rfl (flatC_len kC_len l) HN.out (kC_oneL l) hm1 hm2 (by rw [World.size_alloc]; omega) ?_; intro v6 w6 hown6 hgrow6 _)
    have HB6 := Lib.hid (HB.out.grown hgrow6 (by rw [World.size_alloc]; omega) (fun z hz => by simp [Value.ownBlock] at hz; omega))
    have HO6 := Lib.hid (show w6.ownsRow w.heap.size 54 4 v6 l.length (flatC kC l) by simpa using hown6)
    clear hown6 hgrow6
    go_wp2_with fail
    go_ret
    exact ⟨⟨_, rfl, HO6.out⟩, HB6.out⟩
set_option maxRecDepth 100000 in
set_option maxHeartbeats 2000000 in
theorem pdqK_any (l : List K4) (g cap : Nat) (lim : Int) (w : World) (hl : l.length ≤ 12) (hH : HoldC kC 4 w g 0 l.toArray) :
    Calls Tryz.prog 107 #[.slice (some ⟨g, 0, none⟩) l.length cap, .int .i64 0, .int .i64 l.length, .int .i64 lim, .func (.func 54) #[.agg #[.func (.func 73) #[] #[]]] #[]] w fun e w' => e = .returned (.tuple #[]) ∧ w.grownBy w' (some g) ∧ HoldC kC 4 w' g 0 (srtSK l).toArray := by
  have HI := Lib.hid (show Calls Tryz.prog 120 #[.slice (some ⟨g, 0, none⟩) l.length cap, .int .i64 0, .int .i64 l.length, .func (.func 54) #[.agg #[.func (.func 73) #[] #[]]] #[]] w fun e w' => e = .returned (.tuple #[]) ∧ w.grownBy w' (some g) ∧ HoldC kC 4 w' g 0 (srtSK l).toArray from by
    have := insK_any (fun _ => True) sgnK l.toArray g 0 cap 0 l.length w (Nat.zero_le _) (by simp) (by simp; omega) hH (fun _ _ => trivial) (fun x y W _ _ _ => (orderK_any x y W).mono fun _ _ h => ⟨h.1, h.2.1⟩)
    rw [ins_sorted sgnK_by.swo sgnK_by.total l, List.size_toArray] at this
    exact this)
  clear hH
  have t12 : decide ((l.length : Int) ≤ 12) = true := by simp; omega
  generalize l.length = n at *
  go_enter Tryz.func107, Tryz.ntmps107
  go_wp2_with fail
  refine wp_loop_rounds 1 ?_
  rw [rounds_succ]
  go_wp2_with fail
  refine HI.out.mono ?_
  rintro e w' ⟨rfl, h1⟩
  have H1 := Lib.hid h1
  clear h1
  go_wp2_with fail
  (try simp only [Exit.inBlock, Exit.then]); refine bodyPost_ret (results_none rfl _ _ _) rfl ?_
  exact ⟨rfl, H1.out⟩
set_option maxRecDepth 100000 in
set_option maxHeartbeats 2000000 in
theorem srtOK_any (l : List K4) (v : Value) (B : Nat) (w : World) (hl : l.length ≤ 12) (hown : w.ownsRow B 54 4 v l.length (flatC kC l)) :
    Calls Tryz.prog 78 #[v, .func (.func 54) #[.agg #[.func (.func 73) #[] #[]]] #[]] w fun e w' => e = .returned (.tuple #[]) ∧ w.grownBy w' v.ownBlock ∧ Row (fun b => B ≤ b) w' 4 l.length v (flatC kC (srtSK l)) := by
  obtain ⟨_, ⟨rfl, h0⟩ | ⟨g, cap, cur, rfl, hBg, hg, hnc, hcm, hcs, htk⟩⟩ := hown
  · have hl0 : l = [] := List.length_eq_zero_iff.1 h0
    subst hl0
    refine (AnyF.slices_SortFunc_none (P := Tryz.prog) (ρ := Tryz.sortKey_ren) Tryz.sortKey none 0 _ w).mono ?_
    rintro e w' ⟨rfl, rfl⟩
    exact ⟨rfl, World.grownBy.refl _ _, by simp [srtSK, flatC]; exact Row.nil _ _ _ _ _⟩
  · have hH := holdC_of kC_len hg htk
    have HP := Lib.hid (fun lim => pdqK_any l g cap lim w hl hH)
    have HRW := Lib.hid (fun (w' : World) (h : HoldC kC 4 w' g 0 (srtSK l).toArray) => row_hold (S := fun b => B ≤ b) (cap := cap) kC_len h hBg (by rw [srtSK_len]; exact hnc))
    rw [srtSK_len] at HRW
    have HL := Lib.hid (show ∀ W, Calls Tryz.prog 64 #[.int .u64 (l.length : Int)] W fun e w' => e = .returned (.int .i64 (Lib.bitLen l.length : Nat)) ∧ w' = W from fun W => Any.bits_Len (SlLaysF0.n15.bits (P := Tryz.prog) (ρ := Tryz.sortKey_ren) { Tryz.sortKey with }) l.length W (by omega) (by omega))
    clear hH hg htk hcs hcm hBg
    generalize l.length = n at *
    go_enter Tryz.func78, Tryz.ntmps78
    go_wp2_with fail
    refine (HL.out _).mono ?_
    rintro e w1 ⟨rfl, hw1⟩
    subst w1
    go_wp2_with fail
    refine (HP.out _).mono ?_
    rintro e w2 ⟨rfl, hg2, hh2⟩
    have HG2 := Lib.hid hg2
    have HR2 := Lib.hid (HRW.out _ hh2)
    clear hg2 hh2
    go_wp2_with fail
    go_end0
    exact ⟨rfl, HG2.out, HR2.out⟩
set_option maxRecDepth 100000 in
set_option maxHeartbeats 2000000 in
theorem sortedK_any (l : List K4) (v : Value) (w : World) (hl : l.length ≤ 12) (h : Row anyB w 4 l.length v (flatC kC l)) (hn : NilA v) :
    Calls Tryz.prog 53 #[.agg #[.func (.func 73) #[] #[]], v] w fun e w' => (∃ v', e = .returned v' ∧ Row (fun b => w.heap.size ≤ b) w' 4 l.length v' (flatC kC (srtSK l))) ∧ More w w' := by
  obtain ⟨a, cap, rfl, _⟩ := h.shape
  have HCL := Lib.hid (fun W (hW : More w W) => cloneK_own l _ W (by omega) (h.below hW.below) hn)
  have HSO := Lib.hid (fun v B W => srtOK_any l v B W hl)
  clear h hn
  generalize l.length = n at *
  go_enter Tryz.func53, Tryz.ntmps53
  go_upto_region 1 with (fail)
  have HRB := Lib.hid (alloc_last w (.cells #[.func (.func 73) #[] #[]] 109))
  have HM2 := Lib.hid (more_alloc w (.cells #[.func (.func 73) #[] #[]] 109))
  obtain ⟨RB, HRE⟩ : ∃ RB, Hid (RB = w.heap.size) := ⟨_, Lib.hid rfl⟩
  rw [← HRE.out] at HRB ⊢
  generalize w.alloc (.cells #[.func (.func 73) #[] #[]] 109) = w2 at *
  go_wp2_with fail
  refine (HCL.out _ HM2.out).mono ?_
  rintro e w3 ⟨⟨v3, rfl, ho3⟩, hb3⟩
  have HM3 := Lib.hid (more_trans HM2.out (more_of hb3))
  have HRB3 := Lib.hid (((more_of hb3).block (blk_lt HRB.out)).trans HRB.out)
  have HO3 := Lib.hid ho3
  have HSZ := Lib.hid HM2.out.size
  obtain ⟨a3, c3, rfl, HZ3⟩ := owns_shape ho3
  have HZ := Lib.hid HZ3
  clear ho3 hb3 HZ3 HM2 HRB
  have f0 : w3.cell? ⟨RB, 0, none⟩ = some (.func (.func 73) #[] #[]) := cell_of_blk HRB3.out rfl
  have hf := cell_lt f0
  go_wp2_with fail
  refine (HSO.out _ _ _ HO3.out).mono ?_
  rintro e w4 ⟨rfl, hg4, hr4⟩
  have HM4 := Lib.hid (show More w w4 from moreGrown HM3.out hg4 (fun b hb => Nat.le_trans HSZ.out (HZ.out b hb).1))
  have HR4 := Lib.hid (hr4.mono (S' := fun b => w.heap.size ≤ b) (fun b hb => Nat.le_trans HSZ.out hb) (fun _ _ _ _ h => h))
  clear hg4 hr4 f0 hf
  go_wp2_with fail
  go_ret
  exact ⟨⟨_, rfl, HR4.out⟩, HM4.out⟩
set_option maxRecDepth 100000 in
set_option maxHeartbeats 2000000 in
theorem pdqM_any (l : List M3) (g cap : Nat) (lim : Int) (w : World) (hl : l.length ≤ 12) (hH : HoldC mC 3 w g 0 l.toArray) :
    Calls Tryz.prog 109 #[.slice (some ⟨g, 0, none⟩) l.length cap, .int .i64 0, .int .i64 l.length, .int .i64 lim, .func (.func 58) #[.agg #[.func (.func 80) #[] #[]]] #[]] w fun e w' => e = .returned (.tuple #[]) ∧ w.grownBy w' (some g) ∧ HoldC mC 3 w' g 0 (srtSM l).toArray := by
  have HI := Lib.hid (show Calls Tryz.prog 128 #[.slice (some ⟨g, 0, none⟩) l.length cap, .int .i64 0, .int .i64 l.length, .func (.func 58) #[.agg #[.func (.func 80) #[] #[]]] #[]] w fun e w' => e = .returned (.tuple #[]) ∧ w.grownBy w' (some g) ∧ HoldC mC 3 w' g 0 (srtSM l).toArray from by
    have := insM_any (fun _ => True) sgnM l.toArray g 0 cap 0 l.length w (Nat.zero_le _) (by simp) (by simp; omega) hH (fun _ _ => trivial) (fun x y W _ _ _ => (orderM_any x y W).mono fun _ _ h => ⟨h.1, h.2.1⟩)
    rw [ins_sorted sgnM_by.swo sgnM_by.total l, List.size_toArray] at this
    exact this)
  clear hH
  have t12 : decide ((l.length : Int) ≤ 12) = true := by simp; omega
  generalize l.length = n at *
  go_enter Tryz.func109, Tryz.ntmps109
  go_wp2_with fail
  refine wp_loop_rounds 1 ?_
  rw [rounds_succ]
  go_wp2_with fail
  refine HI.out.mono ?_
  rintro e w' ⟨rfl, h1⟩
  have H1 := Lib.hid h1
  clear h1
  go_wp2_with fail
  (try simp only [Exit.inBlock, Exit.then]); refine bodyPost_ret (results_none rfl _ _ _) rfl ?_
  exact ⟨rfl, H1.out⟩
set_option maxRecDepth 100000 in
set_option maxHeartbeats 2000000 in
theorem srtOM_any (l : List M3) (v : Value) (B : Nat) (w : World) (hl : l.length ≤ 12) (hown : w.ownsRow B 57 3 v l.length (flatC mC l)) :
    Calls Tryz.prog 81 #[v, .func (.func 58) #[.agg #[.func (.func 80) #[] #[]]] #[]] w fun e w' => e = .returned (.tuple #[]) ∧ w.grownBy w' v.ownBlock ∧ Row (fun b => B ≤ b) w' 3 l.length v (flatC mC (srtSM l)) := by
  obtain ⟨_, ⟨rfl, h0⟩ | ⟨g, cap, cur, rfl, hBg, hg, hnc, hcm, hcs, htk⟩⟩ := hown
  · have hl0 : l = [] := List.length_eq_zero_iff.1 h0
    subst hl0
    refine (AnyF.slices_SortFunc_none (P := Tryz.prog) (ρ := Tryz.sortMsg_ren) Tryz.sortMsg none 0 _ w).mono ?_
    rintro e w' ⟨rfl, rfl⟩
    exact ⟨rfl, World.grownBy.refl _ _, by simp [srtSM, flatC]; exact Row.nil _ _ _ _ _⟩
  · have hH := holdC_of mC_len hg htk
    have HP := Lib.hid (fun lim => pdqM_any l g cap lim w hl hH)
    have HRW := Lib.hid (fun (w' : World) (h : HoldC mC 3 w' g 0 (srtSM l).toArray) => row_hold (S := fun b => B ≤ b) (cap := cap) mC_len h hBg (by rw [srtSM_len]; exact hnc))
    rw [srtSM_len] at HRW
    have HL := Lib.hid (show ∀ W, Calls Tryz.prog 64 #[.int .u64 (l.length : Int)] W fun e w' => e = .returned (.int .i64 (Lib.bitLen l.length : Nat)) ∧ w' = W from fun W => Any.bits_Len (SlLaysF0.n15.bits (P := Tryz.prog) (ρ := Tryz.sortMsg_ren) { Tryz.sortMsg with }) l.length W (by omega) (by omega))
    clear hH hg htk hcs hcm hBg
    generalize l.length = n at *
    go_enter Tryz.func81, Tryz.ntmps81
    go_wp2_with fail
    refine (HL.out _).mono ?_
    rintro e w1 ⟨rfl, hw1⟩
    subst w1
    go_wp2_with fail
    refine (HP.out _).mono ?_
    rintro e w2 ⟨rfl, hg2, hh2⟩
    have HG2 := Lib.hid hg2
    have HR2 := Lib.hid (HRW.out _ hh2)
    clear hg2 hh2
    go_wp2_with fail
    go_end0
    exact ⟨rfl, HG2.out, HR2.out⟩
set_option maxRecDepth 100000 in
set_option maxHeartbeats 2000000 in
theorem sortedM_any (l : List M3) (v : Value) (w : World) (hl : l.length ≤ 12) (h : Row anyB w 3 l.length v (flatC mC l)) (hn : NilA v) :
    Calls Tryz.prog 57 #[.agg #[.func (.func 80) #[] #[]], v] w fun e w' => (∃ v', e = .returned v' ∧ Row (fun b => w.heap.size ≤ b) w' 3 l.length v' (flatC mC (srtSM l))) ∧ More w w' := by
  obtain ⟨a, cap, rfl, _⟩ := h.shape
  have HCL := Lib.hid (fun W (hW : More w W) => cloneM_own l _ W (by omega) (h.below hW.below) hn)
  have HSO := Lib.hid (fun v B W => srtOM_any l v B W hl)
  clear h hn
  generalize l.length = n at *
  go_enter Tryz.func57, Tryz.ntmps57
  go_upto_region 1 with (fail)
  have HRB := Lib.hid (alloc_last w (.cells #[.func (.func 80) #[] #[]] 114))
  have HM2 := Lib.hid (more_alloc w (.cells #[.func (.func 80) #[] #[]] 114))
  obtain ⟨RB, HRE⟩ : ∃ RB, Hid (RB = w.heap.size) := ⟨_, Lib.hid rfl⟩
  rw [← HRE.out] at HRB ⊢
  generalize w.alloc (.cells #[.func (.func 80) #[] #[]] 114) = w2 at *
  go_wp2_with fail
  refine (HCL.out _ HM2.out).mono ?_
  rintro e w3 ⟨⟨v3, rfl, ho3⟩, hb3⟩
  have HM3 := Lib.hid (more_trans HM2.out (more_of hb3))
  have HRB3 := Lib.hid (((more_of hb3).block (blk_lt HRB.out)).trans HRB.out)
  have HO3 := Lib.hid ho3
  have HSZ := Lib.hid HM2.out.size
  obtain ⟨a3, c3, rfl, HZ3⟩ := owns_shape ho3
  have HZ := Lib.hid HZ3
  clear ho3 hb3 HZ3 HM2 HRB
  have f0 : w3.cell? ⟨RB, 0, none⟩ = some (.func (.func 80) #[] #[]) := cell_of_blk HRB3.out rfl
  have hf := cell_lt f0
  go_wp2_with fail
  refine (HSO.out _ _ _ HO3.out).mono ?_
  rintro e w4 ⟨rfl, hg4, hr4⟩
  have HM4 := Lib.hid (show More w w4 from moreGrown HM3.out hg4 (fun b hb => Nat.le_trans HSZ.out (HZ.out b hb).1))
  have HR4 := Lib.hid (hr4.mono (S' := fun b => w.heap.size ≤ b) (fun b hb => Nat.le_trans HSZ.out hb) (fun _ _ _ _ h => h))
  clear hg4 hr4 f0 hf
  go_wp2_with fail
  go_ret
  exact ⟨⟨_, rfl, HR4.out⟩, HM4.out⟩
end Go.Proofs.YtemeppfikpafbaaGreat
