/- Texts SrtC, CmpC, laid together. -/
import Derived.StillTailTactics
import Derived.Test.YtemeppfikpafbaaGreatVcm
import Derived.Test.YtemeppfikpafbaaGreatVcn
/- Sorting of at most 12 keys (231) or messages (124) by the orders' compare; (order).sorted (188, 192). -/
namespace Go.Proofs.YtemeppfikpafbaaGreat
open Go.RowKit Go.Sort Go.Shelf
theorem flatC_inv {α : Type} {c : α → List Value} {k : Nat} (hc : ∀ x, (c x).length = k) : ∀ (l : List α) (j : Nat) (u : Value), (flatC c l)[j]? = some u → ∃ i r, ∃ h : i < l.length, r < k ∧ j = i * k + r ∧ (c l[i])[r]? = some u
  | [], j, u, h => by simp [flatC] at h
  | x :: xs, j, u, h => by
    unfold flatC at h
    rw [List.flatMap_cons] at h
    by_cases hj : j < k
    · rw [List.getElem?_append_left (by rw [hc]; exact hj)] at h
      exact ⟨0, j, by simp, hj, by simp, by simpa using h⟩
    · rw [List.getElem?_append_right (by rw [hc]; omega), hc] at h
      obtain ⟨i, r, hi, hr, hjr, hu⟩ := flatC_inv hc xs _ u h
      exact ⟨i + 1, r, by simpa using hi, hr, by rw [Nat.add_mul]; omega, by simpa using hu⟩
section
variable {α : Type} [Inhabited α] {c : α → List Value} {k : Nat}
/-- An own row may be written in place. -/
theorem holdC_of {w : World} {g : Nat} {cur : Array Value} {T : TypeId} {l : List α} (hc : ∀ x, (c x).length = k) (hg : w.heap[g]? = some (.cells cur T)) (htk : cur.toList.take (l.length * k) = flatC c l) : HoldC c k w g 0 l.toArray := by
  intro i hi j u hj
  have hi' : i < l.length := by simpa using hi
  have e : l.toArray[i]! = l[i] := by simp [hi']
  rw [e] at hj
  have h1 := flatC_get hc l i hi' j u hj
  rw [← htk, List.getElem?_take] at h1
  split at h1
  · rw [Array.getElem?_toList] at h1
    rw [Nat.zero_add]
    exact ⟨cell_of_blk hg h1, thaw hg _⟩
  · cases h1
/-- A row that was written in place is a row. -/
theorem row_hold {S : Nat → Prop} {w : World} {g cap : Nat} {l : List α} (hc : ∀ x, (c x).length = k) (h : HoldC c k w g 0 l.toArray) (hS : S g) (hcap : l.length ≤ cap) : Row S w k l.length (.slice (some ⟨g, 0, none⟩) l.length cap) (flatC c l) := by
  refine ⟨flatC_len hc l, some ⟨g, 0, none⟩, cap, rfl, hcap, fun _ => ⟨g, 0, rfl, hS, fun j u hj => ?_⟩⟩
  obtain ⟨i, r, hi, hr, rfl, hu⟩ := flatC_inv hc l j u hj
  have e : l.toArray[i]! = l[i] := by simp [hi]
  have := (h i (by simpa using hi) r u (by rw [e]; exact hu)).1
  rw [Nat.zero_add] at this ⊢
  exact this
theorem ins_sorted {cf : α → α → Int} (hO : SWO (ltOf cf)) (hT : ∀ x y, (ltOf cf) x y = false → (ltOf cf) y x = false → x = y) (l : List α) : insertionSort (ltOf cf) l.toArray 0 l.length = (l.mergeSort fun x y => !(ltOf cf) y x).toArray := by
  obtain ⟨h1, h2⟩ := insertionSort_holds hO l.toArray 0 l.length (Nat.zero_le _) (by simp)
  have h3 := sorted_unique_holds hO hT l.toArray (insertionSort (ltOf cf) l.toArray 0 l.length) (by simpa using h1) (by simpa using h2)
  rw [← Array.toList_inj, h3]
end
theorem sgnM_eq (x y : M3) : sgnM x y < 0 ↔ cmpM3 x y < 0 := by
  unfold sgnM
  by_cases h1 : cmpM3 x y < 0
  · simp [h1]
  · rw [if_neg h1]
    by_cases h2 : cmpM3 y x < 0 <;> simp [h1, h2]
theorem sgnM_by : CmpBy sgnM ltM := ⟨fun x y => (sgnM_eq x y).trans (cmpM_by.neg x y), cmpM_by.irrefl, cmpM_by.trans, cmpM_by.tri⟩
theorem kC_oneL (l : List K4) : ∀ u ∈ flatC kC l, u.oneCell' = true := by
  intro u hu
  unfold flatC at hu
  obtain ⟨x, _, hx⟩ := List.mem_flatMap.1 hu
  simp [kC] at hx
  rcases hx with rfl | rfl | rfl | rfl <;> rfl
def srtSK (l : List K4) : List K4 := l.mergeSort fun x y => !(ltOf sgnK) y x
def srtSM (l : List M3) : List M3 := l.mergeSort fun x y => !(ltOf sgnM) y x
theorem srtSK_len (l : List K4) : (srtSK l).length = l.length := List.length_mergeSort _
theorem srtSM_len (l : List M3) : (srtSM l).length = l.length := List.length_mergeSort _
set_option maxRecDepth 100000 in
set_option maxHeartbeats 1000000 in
theorem cloneM_ownD (l : List M3) (v : Value) (w : World) (hl : l.length ≤ 1000000) (h : Row anyB w 3 l.length v (flatC mC l)) (hn : NilA v) :
    Calls Tryz.prog 23 #[v] w fun e w' => (∃ v', e = .returned v' ∧ w'.ownsRow w.heap.size 57 3 v' l.length (flatC mC l)) ∧ (Below w.heap.size w w' ∧ w.drawn ≤ w'.drawn) := by
  obtain ⟨a, cap, rfl, _⟩ := h.shape
  obtain ⟨i0, hi0, hz0, hz1, hz2⟩ := info_parts info54
  have hq := fun W => Lib.run_eql_slice_nil (P := Tryz.prog) W 32 57 a l.length cap 0 0 Tryz.underlying32
  cases a with
  | none =>
    obtain rfl := hn _ _ rfl
    have HR := Lib.hid h; clear h
    go_enter Tryz.func23, Tryz.ntmps23
    go_wp2_with fail
    go_ret
    have e0 : l = [] := by
      cases l with
      | nil => rfl
      | cons x r => obtain ⟨_, _, he, _⟩ := HR.out.at (by simp); cases he
    subst e0
    exact ⟨⟨_, rfl, World.ownsRow_nil _ _ _ _⟩, Below.refl _ _, Nat.le_refl _⟩
  | some ta =>
    have HR := Lib.hid h; clear h
    have HM := Lib.hid (more_alloc w (.cells #[] 57))
    have HN := Lib.hid (row_news mC_len (HR.out.below HM.out.below))
    have HO := Lib.hid (ownsRow_empty w 57 3)
    have HB := Lib.hid ((Below.refl w.heap.size w).alloc (Nat.le_refl _) (.cells #[] 57))
    have hm1 : 0 + l.length ≤ maxLen := by unfold maxLen; omega
    have hm2 : (0 + l.length) * 24 ≤ 140737488355328 := by omega
    go_enter Tryz.func23, Tryz.ntmps23
    go_wp2_with (at_builtin; refine wpList_append_ownD _ rfl _ _ 32 rfl w.heap.size 57 i0 _ 3 24 Tryz.underlying32 hi0 hz0 hz1 hz2 rfl (by omega) (.slice (some ⟨w.heap.size, 0, none⟩) 0 0) 0 [] rfl HO.out ta l.length cap (flatC mC l) rfl (flatC_len mC_len l) HN.out (mC_one l) hm1 hm2 (by rw [World.size_alloc]; omega) ?_; intro v6 w6 hown6 hgrow6 _)
    have HB6 := Lib.hid (HB.out.grown hgrow6.1 (by rw [World.size_alloc]; omega) (fun z hz => by simp [Value.ownBlock] at hz; omega))
    have HO6 := Lib.hid (show w6.ownsRow w.heap.size 57 3 v6 l.length (flatC mC l) by simpa using hown6)
    have HD6 := Lib.hid (show w.drawn ≤ w6.drawn from hgrow6.2)
    clear hown6 hgrow6
    go_wp2_with fail
    go_ret
    exact ⟨⟨_, rfl, HO6.out⟩, HB6.out, HD6.out⟩
set_option maxRecDepth 100000 in
set_option maxHeartbeats 1000000 in
theorem cloneK_ownD (l : List K4) (v : Value) (w : World) (hl : l.length ≤ 1000000) (h : Row anyB w 4 l.length v (flatC kC l)) (hn : NilA v) :
    Calls Tryz.prog 22 #[v] w fun e w' => (∃ v', e = .returned v' ∧ w'.ownsRow w.heap.size 54 4 v' l.length (flatC kC l)) ∧ (Below w.heap.size w w' ∧ w.drawn ≤ w'.drawn) := by
  obtain ⟨a, cap, rfl, _⟩ := h.shape
  obtain ⟨i0, hi0, hz0, hz1, hz2⟩ := info_parts info48
  have hq := fun W => Lib.run_eql_slice_nil (P := Tryz.prog) W 31 54 a l.length cap 0 0 Tryz.underlying31
  cases a with
  | none =>
    obtain rfl := hn _ _ rfl
    have HR := Lib.hid h; clear h
    go_enter Tryz.func22, Tryz.ntmps22
    go_wp2_with fail
    go_ret
    have e0 : l = [] := by
      cases l with
      | nil => rfl
      | cons x r => obtain ⟨_, _, he, _⟩ := HR.out.at (by simp); cases he
    subst e0
    exact ⟨⟨_, rfl, World.ownsRow_nil _ _ _ _⟩, Below.refl _ _, Nat.le_refl _⟩
  | some ta =>
    have HR := Lib.hid h; clear h
    have HM := Lib.hid (more_alloc w (.cells #[] 54))
    have HN := Lib.hid (row_news kC_len (HR.out.below HM.out.below))
    have HO := Lib.hid (ownsRow_empty w 54 4)
    have HB := Lib.hid ((Below.refl w.heap.size w).alloc (Nat.le_refl _) (.cells #[] 54))
    have hm1 : 0 + l.length ≤ maxLen := by unfold maxLen; omega
    have hm2 : (0 + l.length) * 32 ≤ 140737488355328 := by omega
    go_enter Tryz.func22, Tryz.ntmps22
    go_wp2_with (at_builtin; refine wpList_append_ownD _ rfl _ _ 31 rfl w.heap.size 54 i0 _ 4 32 Tryz.underlying31 hi0 hz0 hz1 hz2 rfl (by omega) (.slice (some ⟨w.heap.size, 0, none⟩) 0 0) 0 [] rfl HO.out ta l.length cap (flatC kC l) rfl (flatC_len kC_len l) HN.out (kC_oneL l) hm1 hm2 (by rw [World.size_alloc]; omega) ?_; intro v6 w6 hown6 hgrow6 _)
    have HB6 := Lib.hid (HB.out.grown hgrow6.1 (by rw [World.size_alloc]; omega) (fun z hz => by simp [Value.ownBlock] at hz; omega))
    have HO6 := Lib.hid (show w6.ownsRow w.heap.size 54 4 v6 l.length (flatC kC l) by simpa using hown6)
    have HD6 := Lib.hid (show w.drawn ≤ w6.drawn from hgrow6.2)
    clear hown6 hgrow6
    go_wp2_with fail
    go_ret
    exact ⟨⟨_, rfl, HO6.out⟩, HB6.out, HD6.out⟩
set_option maxRecDepth 100000 in
set_option maxHeartbeats 2000000 in
theorem pdqK_any (l : List K4) (g cap : Nat) (lim : Int) (w : World) (hl : l.length ≤ 12) (hH : HoldC kC 4 w g 0 l.toArray) :
    Calls Tryz.prog 107 #[.slice (some ⟨g, 0, none⟩) l.length cap, .int .i64 0, .int .i64 l.length, .int .i64 lim, .func (.func 54) #[.agg #[.func (.func 73) #[] #[]]] #[]] w fun e w' => e = .returned (.tuple #[]) ∧ GD w w' (some g) ∧ HoldC kC 4 w' g 0 (srtSK l).toArray := by
  have HI := Lib.hid (show Calls Tryz.prog 120 #[.slice (some ⟨g, 0, none⟩) l.length cap, .int .i64 0, .int .i64 l.length, .func (.func 54) #[.agg #[.func (.func 73) #[] #[]]] #[]] w fun e w' => e = .returned (.tuple #[]) ∧ GD w w' (some g) ∧ HoldC kC 4 w' g 0 (srtSK l).toArray from by
    have := insK_any (fun _ => True) sgnK l.toArray g 0 cap 0 l.length w (Nat.zero_le _) (by simp) (by simp; omega) hH (fun _ _ => trivial) (fun x y W _ _ _ => (orderK_any x y W).mono fun _ _ h => ⟨h.1, h.2⟩)
    rw [ins_sorted sgnK_by.swo sgnK_by.total l, List.size_toArray] at this
    exact this)
  clear hH
  have t12 : decide ((l.length : Int) ≤ 12) = true := by simp; omega
  generalize l.length = n at *
  go_enter Tryz.func107, Tryz.ntmps107
  go_wp2_with fail
  refine wp_loop_rounds 1 ?_
  rw [rounds_succ]
  go_wp2_with fail
  refine HI.out.mono ?_
  rintro e w' ⟨rfl, h1⟩
  have H1 := Lib.hid h1
  clear h1
  go_wp2_with fail
  (try simp only [Exit.inBlock, Exit.then]); refine bodyPost_ret (results_none rfl _ _ _) rfl ?_
  exact ⟨rfl, H1.out⟩
set_option maxRecDepth 100000 in
set_option maxHeartbeats 2000000 in
theorem srtOK_any (l : List K4) (v : Value) (B : Nat) (w : World) (hl : l.length ≤ 12) (hown : w.ownsRow B 54 4 v l.length (flatC kC l)) :
    Calls Tryz.prog 78 #[v, .func (.func 54) #[.agg #[.func (.func 73) #[] #[]]] #[]] w fun e w' => e = .returned (.tuple #[]) ∧ GD w w' v.ownBlock ∧ Row (fun b => B ≤ b) w' 4 l.length v (flatC kC (srtSK l)) := by
  obtain ⟨_, ⟨rfl, h0⟩ | ⟨g, cap, cur, rfl, hBg, hg, hnc, hcm, hcs, htk⟩⟩ := hown
  · have hl0 : l = [] := List.length_eq_zero_iff.1 h0
    subst hl0
    refine (AnyF.slices_SortFunc_none (P := Tryz.prog) (ρ := Tryz.sortKey_ren) Tryz.sortKey none 0 _ w).mono ?_
    rintro e w' ⟨rfl, rfl⟩
    exact ⟨rfl, GD.refl _ _, by simp [srtSK, flatC]; exact Row.nil _ _ _ _ _⟩
  · have hH := holdC_of kC_len hg htk
    have HP := Lib.hid (fun lim => pdqK_any l g cap lim w hl hH)
    have HRW := Lib.hid (fun (w' : World) (h : HoldC kC 4 w' g 0 (srtSK l).toArray) => row_hold (S := fun b => B ≤ b) (cap := cap) kC_len h hBg (by rw [srtSK_len]; exact hnc))
    rw [srtSK_len] at HRW
    have HL := Lib.hid (show ∀ W, Calls Tryz.prog 64 #[.int .u64 (l.length : Int)] W fun e w' => e = .returned (.int .i64 (Lib.bitLen l.length : Nat)) ∧ w' = W from fun W => Any.bits_Len (SlLaysF0.n15.bits (P := Tryz.prog) (ρ := Tryz.sortKey_ren) { Tryz.sortKey with }) l.length W (by omega) (by omega))
    clear hH hg htk hcs hcm hBg
    generalize l.length = n at *
    go_enter Tryz.func78, Tryz.ntmps78
    go_wp2_with fail
    refine (HL.out _).mono ?_
    rintro e w1 ⟨rfl, hw1⟩
    subst w1
    go_wp2_with fail
    refine (HP.out _).mono ?_
    rintro e w2 ⟨rfl, hg2, hh2⟩
    have HG2 := Lib.hid hg2
    have HR2 := Lib.hid (HRW.out _ hh2)
    clear hg2 hh2
    go_wp2_with fail
    go_end0
    exact ⟨rfl, HG2.out, HR2.out⟩
set_option maxRecDepth 100000 in
set_option maxHeartbeats 2000000 in
theorem sortedK_any (l : List K4) (v : Value) (w : World) (hl : l.length ≤ 12) (h : Row anyB w 4 l.length v (flatC kC l)) (hn : NilA v) :
    Calls Tryz.prog 53 #[.agg #[.func (.func 73) #[] #[]], v] w fun e w' => (∃ v', e = .returned v' ∧ Row (fun b => w.heap.size ≤ b) w' 4 l.length v' (flatC kC (srtSK l))) ∧ Lay w w' := by
  obtain ⟨a, cap, rfl, _⟩ := h.shape
  have HCL := Lib.hid (fun W (hW : More w W) => cloneK_ownD l _ W (by omega) (h.below hW.below) hn)
  have HSO := Lib.hid (fun v B W => srtOK_any l v B W hl)
  clear h hn
  generalize l.length = n at *
  go_enter Tryz.func53, Tryz.ntmps53
  go_upto_region 1 with (fail)
  have HRB := Lib.hid (alloc_last w (.cells #[.func (.func 73) #[] #[]] 109))
  have HM2 := Lib.hid (more_alloc w (.cells #[.func (.func 73) #[] #[]] 109))
  have HD2 := Lib.hid (show w.drawn ≤ (w.alloc (.cells #[.func (.func 73) #[] #[]] 109)).drawn from Nat.le_refl _)
  obtain ⟨RB, HRE⟩ : ∃ RB, Hid (RB = w.heap.size) := ⟨_, Lib.hid rfl⟩
  rw [← HRE.out] at HRB ⊢
  generalize w.alloc (.cells #[.func (.func 73) #[] #[]] 109) = w2 at *
  go_wp2_with fail
  refine (HCL.out _ HM2.out).mono ?_
  rintro e w3 ⟨⟨v3, rfl, ho3⟩, hb3⟩
  have HM3 := Lib.hid (more_trans HM2.out (more_of hb3.1))
  have HRB3 := Lib.hid (((more_of hb3.1).block (blk_lt HRB.out)).trans HRB.out)
  have HO3 := Lib.hid ho3
  have HSZ := Lib.hid HM2.out.size
  obtain ⟨a3, c3, rfl, HZ3⟩ := owns_shape ho3
  have HZ := Lib.hid HZ3
  have HD3 := Lib.hid (show w.drawn ≤ w3.drawn from Nat.le_trans HD2.out hb3.2)
  clear ho3 hb3 HZ3 HM2 HRB
  have f0 : w3.cell? ⟨RB, 0, none⟩ = some (.func (.func 73) #[] #[]) := cell_of_blk HRB3.out rfl
  have hf := cell_lt f0
  go_wp2_with fail
  refine (HSO.out _ _ _ HO3.out).mono ?_
  rintro e w4 ⟨rfl, hg4, hr4⟩
  have HM4 := Lib.hid (show More w w4 from moreGrown HM3.out hg4.1 (fun b hb => Nat.le_trans HSZ.out (HZ.out b hb).1))
  have HR4 := Lib.hid (hr4.mono (S' := fun b => w.heap.size ≤ b) (fun b hb => Nat.le_trans HSZ.out hb) (fun _ _ _ _ h => h))
  have HD4 := Lib.hid (Nat.le_trans HD3.out hg4.2)
  clear hg4 hr4 f0 hf
  go_wp2_with fail
  go_ret
  exact ⟨⟨_, rfl, HR4.out⟩, HM4.out, HD4.out⟩
set_option maxRecDepth 100000 in
set_option maxHeartbeats 2000000 in
theorem pdqM_any (l : List M3) (g cap : Nat) (lim : Int) (w : World) (hl : l.length ≤ 12) (hH : HoldC mC 3 w g 0 l.toArray) :
    Calls Tryz.prog 109 #[.slice (some ⟨g, 0, none⟩) l.length cap, .int .i64 0, .int .i64 l.length, .int .i64 lim, .func (.func 58) #[.agg #[.func (.func 80) #[] #[]]] #[]] w fun e w' => e = .returned (.tuple #[]) ∧ GD w w' (some g) ∧ HoldC mC 3 w' g 0 (srtSM l).toArray := by
  have HI := Lib.hid (show Calls Tryz.prog 128 #[.slice (some ⟨g, 0, none⟩) l.length cap, .int .i64 0, .int .i64 l.length, .func (.func 58) #[.agg #[.func (.func 80) #[] #[]]] #[]] w fun e w' => e = .returned (.tuple #[]) ∧ GD w w' (some g) ∧ HoldC mC 3 w' g 0 (srtSM l).toArray from by
    have := insM_any (fun _ => True) sgnM l.toArray g 0 cap 0 l.length w (Nat.zero_le _) (by simp) (by simp; omega) hH (fun _ _ => trivial) (fun x y W _ _ _ => (orderM_any x y W).mono fun _ _ h => ⟨h.1, h.2⟩)
    rw [ins_sorted sgnM_by.swo sgnM_by.total l, List.size_toArray] at this
    exact this)
  clear hH
  have t12 : decide ((l.length : Int) ≤ 12) = true := by simp; omega
  generalize l.length = n at *
  go_enter Tryz.func109, Tryz.ntmps109
  go_wp2_with fail
  refine wp_loop_rounds 1 ?_
  rw [rounds_succ]
  go_wp2_with fail
  refine HI.out.mono ?_
  rintro e w' ⟨rfl, h1⟩
  have H1 := Lib.hid h1
  clear h1
  go_wp2_with fail
  (try simp only [Exit.inBlock, Exit.then]); refine bodyPost_ret (results_none rfl _ _ _) rfl ?_
  exact ⟨rfl, H1.out⟩
set_option maxRecDepth 100000 in
set_option maxHeartbeats 2000000 in
theorem srtOM_any (l : List M3) (v : Value) (B : Nat) (w : World) (hl : l.length ≤ 12) (hown : w.ownsRow B 57 3 v l.length (flatC mC l)) :
    Calls Tryz.prog 81 #[v, .func (.func 58) #[.agg #[.func (.func 80) #[] #[]]] #[]] w fun e w' => e = .returned (.tuple #[]) ∧ GD w w' v.ownBlock ∧ Row (fun b => B ≤ b) w' 3 l.length v (flatC mC (srtSM l)) := by
  obtain ⟨_, ⟨rfl, h0⟩ | ⟨g, cap, cur, rfl, hBg, hg, hnc, hcm, hcs, htk⟩⟩ := hown
  · have hl0 : l = [] := List.length_eq_zero_iff.1 h0
    subst hl0
    refine (AnyF.slices_SortFunc_none (P := Tryz.prog) (ρ := Tryz.sortMsg_ren) Tryz.sortMsg none 0 _ w).mono ?_
    rintro e w' ⟨rfl, rfl⟩
    exact ⟨rfl, GD.refl _ _, by simp [srtSM, flatC]; exact Row.nil _ _ _ _ _⟩
  · have hH := holdC_of mC_len hg htk
    have HP := Lib.hid (fun lim => pdqM_any l g cap lim w hl hH)
    have HRW := Lib.hid (fun (w' : World) (h : HoldC mC 3 w' g 0 (srtSM l).toArray) => row_hold (S := fun b => B ≤ b) (cap := cap) mC_len h hBg (by rw [srtSM_len]; exact hnc))
    rw [srtSM_len] at HRW
    have HL := Lib.hid (show ∀ W, Calls Tryz.prog 64 #[.int .u64 (l.length : Int)] W fun e w' => e = .returned (.int .i64 (Lib.bitLen l.length : Nat)) ∧ w' = W from fun W => Any.bits_Len (SlLaysF0.n15.bits (P := Tryz.prog) (ρ := Tryz.sortMsg_ren) { Tryz.sortMsg with }) l.length W (by omega) (by omega))
    clear hH hg htk hcs hcm hBg
    generalize l.length = n at *
    go_enter Tryz.func81, Tryz.ntmps81
    go_wp2_with fail
    refine (HL.out _).mono ?_
    rintro e w1 ⟨rfl, hw1⟩
    subst w1
    go_wp2_with fail
    refine (HP.out _).mono ?_
    rintro e w2 ⟨rfl, hg2, hh2⟩
    have HG2 := Lib.hid hg2
    have HR2 := Lib.hid (HRW.out _ hh2)
    clear hg2 hh2
    go_wp2_with fail
    go_end0
    exact ⟨rfl, HG2.out, HR2.out⟩
set_option maxRecDepth 100000 in
set_option maxHeartbeats 2000000 in
theorem sortedM_any (l : List M3) (v : Value) (w : World) (hl : l.length ≤ 12) (h : Row anyB w 3 l.length v (flatC mC l)) (hn : NilA v) :
    Calls Tryz.prog 57 #[.agg #[.func (.func 80) #[] #[]], v] w fun e w' => (∃ v', e = .returned v' ∧ Row (fun b => w.heap.size ≤ b) w' 3 l.length v' (flatC mC (srtSM l))) ∧ Lay w w' := by
  obtain ⟨a, cap, rfl, _⟩ := h.shape
  have HCL := Lib.hid (fun W (hW : More w W) => cloneM_ownD l _ W (by omega) (h.below hW.below) hn)
  have HSO := Lib.hid (fun v B W => srtOM_any l v B W hl)
  clear h hn
  generalize l.length = n at *
  go_enter Tryz.func57, Tryz.ntmps57
  go_upto_region 1 with (fail)
  have HRB := Lib.hid (alloc_last w (.cells #[.func (.func 80) #[] #[]] 114))
  have HM2 := Lib.hid (more_alloc w (.cells #[.func (.func 80) #[] #[]] 114))
  have HD2 := Lib.hid (show w.drawn ≤ (w.alloc (.cells #[.func (.func 80) #[] #[]] 114)).drawn from Nat.le_refl _)
  obtain ⟨RB, HRE⟩ : ∃ RB, Hid (RB = w.heap.size) := ⟨_, Lib.hid rfl⟩
  rw [← HRE.out] at HRB ⊢
  generalize w.alloc (.cells #[.func (.func 80) #[] #[]] 114) = w2 at *
  go_wp2_with fail
  refine (HCL.out _ HM2.out).mono ?_
  rintro e w3 ⟨⟨v3, rfl, ho3⟩, hb3⟩
  have HM3 := Lib.hid (more_trans HM2.out (more_of hb3.1))
  have HRB3 := Lib.hid (((more_of hb3.1).block (blk_lt HRB.out)).trans HRB.out)
  have HO3 := Lib.hid ho3
  have HSZ := Lib.hid HM2.out.size
  obtain ⟨a3, c3, rfl, HZ3⟩ := owns_shape ho3
  have HZ := Lib.hid HZ3
  have HD3 := Lib.hid (show w.drawn ≤ w3.drawn from Nat.le_trans HD2.out hb3.2)
  clear ho3 hb3 HZ3 HM2 HRB
  have f0 : w3.cell? ⟨RB, 0, none⟩ = some (.func (.func 80) #[] #[]) := cell_of_blk HRB3.out rfl
  have hf := cell_lt f0
  go_wp2_with fail
  refine (HSO.out _ _ _ HO3.out).mono ?_
  rintro e w4 ⟨rfl, hg4, hr4⟩
  have HM4 := Lib.hid (show More w w4 from moreGrown HM3.out hg4.1 (fun b hb => Nat.le_trans HSZ.out (HZ.out b hb).1))
  have HR4 := Lib.hid (hr4.mono (S' := fun b => w.heap.size ≤ b) (fun b hb => Nat.le_trans HSZ.out hb) (fun _ _ _ _ h => h))
  have HD4 := Lib.hid (Nat.le_trans HD3.out hg4.2)
  clear hg4 hr4 f0 hf
  go_wp2_with fail
  go_ret
  exact ⟨⟨_, rfl, HR4.out⟩, HM4.out, HD4.out⟩
theorem cloneK_own (l : List K4) (v : Value) (w : World) (hl : l.length ≤ 1000000) (h : Row anyB w 4 l.length v (flatC kC l)) (hn : NilA v) :
    Calls Tryz.prog 22 #[v] w fun e w' => (∃ v', e = .returned v' ∧ w'.ownsRow w.heap.size 54 4 v' l.length (flatC kC l)) ∧ Below w.heap.size w w' :=
  (cloneK_ownD l v w hl h hn).mono fun _ _ h => ⟨h.1, h.2.1⟩
end Go.Proofs.YtemeppfikpafbaaGreat

/- slices.CompareFunc (230, 232), cause.compareList (186, 190) under the orders' compare. -/
namespace Go.Proofs.YtemeppfikpafbaaGreat
open Go.RowKit Go.Sort
/-- The first comparison that is not zero. -/
def firstNZ {α : Type} (cf : α → α → Int) : List α → List α → Int
  | x :: l, y :: m => if cf x y = 0 then firstNZ cf l m else cf x y
  | _, _ => 0
theorem firstNZ_step {α : Type} (cf : α → α → Int) {l m : List α} {j : Nat} (h1 : j < l.length) (h2 : j < m.length) : firstNZ cf (l.drop j) (m.drop j) = if cf l[j] m[j] = 0 then firstNZ cf (l.drop (j + 1)) (m.drop (j + 1)) else cf l[j] m[j] := by
  rw [List.drop_eq_getElem_cons h1, List.drop_eq_getElem_cons h2]
  rfl
theorem firstNZ_end {α : Type} (cf : α → α → Int) (l m : List α) : firstNZ cf (l.drop l.length) m = 0 := by
  rw [List.drop_length]; cases m <;> rfl
/-- Two lists: by their lengths, then element by element. -/
def cmpL {α : Type} (cf : α → α → Int) (l m : List α) : Int := if l.length = m.length then firstNZ cf l m else (l.length : Int) - m.length
set_option maxRecDepth 100000 in
set_option maxHeartbeats 4000000 in
theorem compareFuncK_any (l m : List K4) (v u : Value) (w : World) (hll : l.length ≤ 100000) (hlm : l.length = m.length) (h : Row anyB w 4 l.length v (flatC kC l)) (k : Row anyB w 4 m.length u (flatC kC m)) :
    Calls Tryz.prog 77 #[v, u, .func (.func 54) #[.agg #[.func (.func 73) #[] #[]]] #[]] w fun e w' => e = .returned (.int .i64 (firstNZ sgnK l m)) ∧ Lay w w' := by
  obtain ⟨a, cap, rfl, _⟩ := h.shape
  obtain ⟨a', cap', rfl, _⟩ := k.shape
  have HR := Lib.hid h; clear h
  have HS := Lib.hid k; clear k
  have HO := Lib.hid (show ∀ (x y : K4) (W : World), Calls Tryz.prog 54 #[.agg #[.func (.func 73) #[] #[]], .agg #[.int .u8 x.kind, .int .i64 x.a, .int .i64 x.b, .int .i64 x.n], .agg #[.int .u8 y.kind, .int .i64 y.a, .int .i64 y.b, .int .i64 y.n]] W fun e w' => e = .returned (.int .i64 (sgnK x y)) ∧ Lay W w' from fun x y W => orderK_any x y W)
  have HLM := Lib.hid hlm
  clear hlm
  go_enter Tryz.func77, Tryz.ntmps77
  go_wp2_with fail
  go_loopw [13] (fun i wr => ∃ j : Nat, j ≤ l.length ∧ i = .int .i64 j ∧ Hid (Lay w wr) ∧ Hid (firstNZ sgnK l m = firstNZ sgnK (l.drop j) (m.drop j))) (fun i _ => l.length - (intOf i).toNat)
  case atStart => exact ⟨0, Nat.zero_le _, rfl, Lib.hid (Lay.refl _), Lib.hid rfl⟩
  case round =>
    obtain ⟨j, hj, rfl, HMr, HF⟩ := hrel
    by_cases hlt : j < l.length
    · have hlt2 : j < m.length := by have := HLM.out; omega
      obtain ⟨b, off, rfl, _, hc⟩ := HR.out.atC kC_len hlt
      have g0 := HMr.out.1.cell (hc 0 (.int .u8 l[j].kind) rfl)
      have g1 := HMr.out.1.cell (hc 1 (.int .i64 l[j].a) rfl)
      have g2 := HMr.out.1.cell (hc 2 (.int .i64 l[j].b) rfl)
      have g3 := HMr.out.1.cell (hc 3 (.int .i64 l[j].n) rfl)
      rw [Nat.add_zero] at g0
      clear hc
      obtain ⟨b', off', rfl, _, hc⟩ := HS.out.atC kC_len hlt2
      have e0 := HMr.out.1.cell (hc 0 (.int .u8 m[j].kind) rfl)
      have e1 := HMr.out.1.cell (hc 1 (.int .i64 m[j].a) rfl)
      have e2 := HMr.out.1.cell (hc 2 (.int .i64 m[j].b) rfl)
      have e3 := HMr.out.1.cell (hc 3 (.int .i64 m[j].n) rfl)
      rw [Nat.add_zero] at e0
      clear hc
      have HST := Lib.hid (firstNZ_step sgnK hlt hlt2)
      generalize l[j] = x at *
      generalize m[j] = y at *
      have hbg := cell_lt g0
      have hbe := cell_lt e0
      have e0a := alloc_cell (.cells #[.int .u8 x.kind, .int .i64 x.a, .int .i64 x.b, .int .i64 x.n] 54) e0
      have e1a := alloc_cell (.cells #[.int .u8 x.kind, .int .i64 x.a, .int .i64 x.b, .int .i64 x.n] 54) e1
      have e2a := alloc_cell (.cells #[.int .u8 x.kind, .int .i64 x.a, .int .i64 x.b, .int .i64 x.n] 54) e2
      have e3a := alloc_cell (.cells #[.int .u8 x.kind, .int .i64 x.a, .int .i64 x.b, .int .i64 x.n] 54) e3
      obtain ⟨b1, b2, hm⟩ := boxed2 wr (.cells #[.int .u8 x.kind, .int .i64 x.a, .int .i64 x.b, .int .i64 x.n] 54) (.cells #[.int .u8 y.kind, .int .i64 y.a, .int .i64 y.b, .int .i64 y.n] 54)
      have HX := Lib.hid b1
      have HY := Lib.hid b2
      have HM5 := Lib.hid hm
      clear b1 b2 hm
      have hlt' := hlt
      go_upto_region 7 with (fail)
      clear g0 e0 e0a g1 e1 e1a g2 e2 e2a g3 e3 e3a hbg hbe
      obtain ⟨YB, HYE⟩ : ∃ YB, Hid (YB = wr.heap.size + 1) := ⟨_, Lib.hid rfl⟩
      rw [← HYE.out] at HY ⊢
      obtain ⟨XB, HXE⟩ : ∃ XB, Hid (XB = wr.heap.size) := ⟨_, Lib.hid rfl⟩
      rw [← HXE.out] at HX ⊢
      generalize (wr.alloc (.cells #[.int .u8 x.kind, .int .i64 x.a, .int .i64 x.b, .int .i64 x.n] 54)).alloc (.cells #[.int .u8 y.kind, .int .i64 y.a, .int .i64 y.b, .int .i64 y.n] 54) = w5 at *
      have c0 : w5.cell? ⟨XB, 0, none⟩ = some (.int .u8 x.kind) := cell_of_blk HX.out rfl
      have c1 : w5.cell? ⟨XB, 1, none⟩ = some (.int .i64 x.a) := cell_of_blk HX.out rfl
      have c2 : w5.cell? ⟨XB, 2, none⟩ = some (.int .i64 x.b) := cell_of_blk HX.out rfl
      have c3 : w5.cell? ⟨XB, 3, none⟩ = some (.int .i64 x.n) := cell_of_blk HX.out rfl
      have d0 : w5.cell? ⟨YB, 0, none⟩ = some (.int .u8 y.kind) := cell_of_blk HY.out rfl
      have d1 : w5.cell? ⟨YB, 1, none⟩ = some (.int .i64 y.a) := cell_of_blk HY.out rfl
      have d2 : w5.cell? ⟨YB, 2, none⟩ = some (.int .i64 y.b) := cell_of_blk HY.out rfl
      have d3 : w5.cell? ⟨YB, 3, none⟩ = some (.int .i64 y.n) := cell_of_blk HY.out rfl
      have hxb := cell_lt c0
      have hyb := cell_lt d0
      go_wp2_with fail
      refine (HO.out x y _).mono ?_
      rintro e w6 ⟨rfl, hl6⟩
      have HM6 := Lib.hid (HMr.out.trans (HM5.out.trans hl6))
      clear hl6 c0 d0 c1 d1 c2 d2 c3 d3 hxb hyb
      by_cases hz : sgnK x y = 0
      · have HN := Lib.hid (show firstNZ sgnK l m = firstNZ sgnK (l.drop (j + 1)) (m.drop (j + 1)) by rw [HF.out, HST.out, if_pos hz])
        rw [hz]
        go_wp2_with fail
        go_roundw
        case rel => exact ⟨j + 1, by omega, by go_num, HM6, HN⟩
        case measure => simp [intOf]; omega
      · have HN := Lib.hid (show firstNZ sgnK l m = sgnK x y by rw [HF.out, HST.out, if_neg hz])
        generalize sgnK x y = z at *
        have hzb : (z == 0) = false := by simpa using hz
        go_wp2_with fail
        go_ret
        rw [HN.out]
        exact ⟨rfl, HM6.out⟩
    · obtain rfl : j = l.length := by omega
      have HN := Lib.hid (show firstNZ sgnK l m = 0 by rw [HF.out]; exact firstNZ_end _ _ _)
      clear hlt hj
      have hle : m.length ≤ l.length := Nat.le_of_eq HLM.out.symm
      go_wp2_with fail
      go_ret
      rw [HN.out]
      exact ⟨rfl, HMr.out⟩
set_option maxRecDepth 100000 in
set_option maxHeartbeats 4000000 in
theorem compareListK_any (l m : List K4) (v u : Value) (w : World) (hll : l.length ≤ 100000) (hlm : m.length ≤ 100000) (h : Row anyB w 4 l.length v (flatC kC l)) (k : Row anyB w 4 m.length u (flatC kC m)) :
    Calls Tryz.prog 51 #[v, u, .func (.func 54) #[.agg #[.func (.func 73) #[] #[]]] #[]] w fun e w' => e = .returned (.int .i64 (cmpL sgnK l m)) ∧ Lay w w' := by
  by_cases he : l.length = m.length
  · have HC := Lib.hid (compareFuncK_any l m v u w hll he h k)
    have HE := Lib.hid (show cmpL sgnK l m = firstNZ sgnK l m by unfold cmpL; rw [if_pos he])
    rw [HE.out]
    obtain ⟨a, cap, rfl, _⟩ := h.shape
    obtain ⟨a', cap', rfl, _⟩ := k.shape
    clear h k HE
    rw [he] at HC ⊢
    generalize firstNZ sgnK l m = r at *
    clear he hll
    generalize m.length = n at *
    go_enter Tryz.func51, Tryz.ntmps51
    go_wp2_with fail
    refine HC.out.mono ?_
    rintro e w1 ⟨rfl, hm1⟩
    have HM := Lib.hid hm1
    clear hm1
    go_wp2_with fail
    go_ret
    exact ⟨rfl, HM.out⟩
  · have HE := Lib.hid (show cmpL sgnK l m = (l.length : Int) - m.length by unfold cmpL; rw [if_neg he])
    rw [HE.out]
    obtain ⟨a, cap, rfl, _⟩ := h.shape
    obtain ⟨a', cap', rfl, _⟩ := k.shape
    have hne : ((l.length : Int) == (m.length : Int)) = false := by simp; omega
    clear h k HE he
    generalize l.length = n1 at *
    generalize m.length = n2 at *
    have hw : IntKind.i64.wrap ((n1 : Int) - (n2 : Int)) = (n1 : Int) - (n2 : Int) := by rw [IntKind.wrap_i64]; omega
    go_enter Tryz.func51, Tryz.ntmps51
    go_wp2_with fail
    go_ret
    exact ⟨rfl, Lay.refl _⟩
set_option maxRecDepth 100000 in
set_option maxHeartbeats 4000000 in
theorem compareFuncM_any (l m : List M3) (v u : Value) (w : World) (hll : l.length ≤ 100000) (hlm : l.length = m.length) (h : Row anyB w 3 l.length v (flatC mC l)) (k : Row anyB w 3 m.length u (flatC mC m)) :
    Calls Tryz.prog 79 #[v, u, .func (.func 58) #[.agg #[.func (.func 80) #[] #[]]] #[]] w fun e w' => e = .returned (.int .i64 (firstNZ sgnM l m)) ∧ Lay w w' := by
  obtain ⟨a, cap, rfl, _⟩ := h.shape
  obtain ⟨a', cap', rfl, _⟩ := k.shape
  have HR := Lib.hid h; clear h
  have HS := Lib.hid k; clear k
  have HO := Lib.hid (show ∀ (x y : M3) (W : World), Calls Tryz.prog 58 #[.agg #[.func (.func 80) #[] #[]], .agg #[.int .i64 x.f, .int .i64 x.t, .int .i64 x.n], .agg #[.int .i64 y.f, .int .i64 y.t, .int .i64 y.n]] W fun e w' => e = .returned (.int .i64 (sgnM x y)) ∧ Lay W w' from fun x y W => orderM_any x y W)
  have HLM := Lib.hid hlm
  clear hlm
  go_enter Tryz.func79, Tryz.ntmps79
  go_wp2_with fail
  go_loopw [13] (fun i wr => ∃ j : Nat, j ≤ l.length ∧ i = .int .i64 j ∧ Hid (Lay w wr) ∧ Hid (firstNZ sgnM l m = firstNZ sgnM (l.drop j) (m.drop j))) (fun i _ => l.length - (intOf i).toNat)
  case atStart => exact ⟨0, Nat.zero_le _, rfl, Lib.hid (Lay.refl _), Lib.hid rfl⟩
  case round =>
    obtain ⟨j, hj, rfl, HMr, HF⟩ := hrel
    by_cases hlt : j < l.length
    · have hlt2 : j < m.length := by have := HLM.out; omega
      obtain ⟨b, off, rfl, _, hc⟩ := HR.out.atC mC_len hlt
      have g0 := HMr.out.1.cell (hc 0 (.int .i64 l[j].f) rfl)
      have g1 := HMr.out.1.cell (hc 1 (.int .i64 l[j].t) rfl)
      have g2 := HMr.out.1.cell (hc 2 (.int .i64 l[j].n) rfl)
      rw [Nat.add_zero] at g0
      clear hc
      obtain ⟨b', off', rfl, _, hc⟩ := HS.out.atC mC_len hlt2
      have e0 := HMr.out.1.cell (hc 0 (.int .i64 m[j].f) rfl)
      have e1 := HMr.out.1.cell (hc 1 (.int .i64 m[j].t) rfl)
      have e2 := HMr.out.1.cell (hc 2 (.int .i64 m[j].n) rfl)
      rw [Nat.add_zero] at e0
      clear hc
      have HST := Lib.hid (firstNZ_step sgnM hlt hlt2)
      generalize l[j] = x at *
      generalize m[j] = y at *
      have hbg := cell_lt g0
      have hbe := cell_lt e0
      have e0a := alloc_cell (.cells #[.int .i64 x.f, .int .i64 x.t, .int .i64 x.n] 57) e0
      have e1a := alloc_cell (.cells #[.int .i64 x.f, .int .i64 x.t, .int .i64 x.n] 57) e1
      have e2a := alloc_cell (.cells #[.int .i64 x.f, .int .i64 x.t, .int .i64 x.n] 57) e2
      obtain ⟨b1, b2, hm⟩ := boxed2 wr (.cells #[.int .i64 x.f, .int .i64 x.t, .int .i64 x.n] 57) (.cells #[.int .i64 y.f, .int .i64 y.t, .int .i64 y.n] 57)
      have HX := Lib.hid b1
      have HY := Lib.hid b2
      have HM5 := Lib.hid hm
      clear b1 b2 hm
      have hlt' := hlt
      go_upto_region 7 with (fail)
      clear g0 e0 e0a g1 e1 e1a g2 e2 e2a hbg hbe
      obtain ⟨YB, HYE⟩ : ∃ YB, Hid (YB = wr.heap.size + 1) := ⟨_, Lib.hid rfl⟩
      rw [← HYE.out] at HY ⊢
      obtain ⟨XB, HXE⟩ : ∃ XB, Hid (XB = wr.heap.size) := ⟨_, Lib.hid rfl⟩
      rw [← HXE.out] at HX ⊢
      generalize (wr.alloc (.cells #[.int .i64 x.f, .int .i64 x.t, .int .i64 x.n] 57)).alloc (.cells #[.int .i64 y.f, .int .i64 y.t, .int .i64 y.n] 57) = w5 at *
      have c0 : w5.cell? ⟨XB, 0, none⟩ = some (.int .i64 x.f) := cell_of_blk HX.out rfl
      have c1 : w5.cell? ⟨XB, 1, none⟩ = some (.int .i64 x.t) := cell_of_blk HX.out rfl
      have c2 : w5.cell? ⟨XB, 2, none⟩ = some (.int .i64 x.n) := cell_of_blk HX.out rfl
      have d0 : w5.cell? ⟨YB, 0, none⟩ = some (.int .i64 y.f) := cell_of_blk HY.out rfl
      have d1 : w5.cell? ⟨YB, 1, none⟩ = some (.int .i64 y.t) := cell_of_blk HY.out rfl
      have d2 : w5.cell? ⟨YB, 2, none⟩ = some (.int .i64 y.n) := cell_of_blk HY.out rfl
      have hxb := cell_lt c0
      have hyb := cell_lt d0
      go_wp2_with fail
      refine (HO.out x y _).mono ?_
      rintro e w6 ⟨rfl, hl6⟩
      have HM6 := Lib.hid (HMr.out.trans (HM5.out.trans hl6))
      clear hl6 c0 d0 c1 d1 c2 d2 hxb hyb
      by_cases hz : sgnM x y = 0
      · have HN := Lib.hid (show firstNZ sgnM l m = firstNZ sgnM (l.drop (j + 1)) (m.drop (j + 1)) by rw [HF.out, HST.out, if_pos hz])
        rw [hz]
        go_wp2_with fail
        go_roundw
        case rel => exact ⟨j + 1, by omega, by go_num, HM6, HN⟩
        case measure => simp [intOf]; omega
      · have HN := Lib.hid (show firstNZ sgnM l m = sgnM x y by rw [HF.out, HST.out, if_neg hz])
        generalize sgnM x y = z at *
        have hzb : (z == 0) = false := by simpa using hz
        go_wp2_with fail
        go_ret
        rw [HN.out]
        exact ⟨rfl, HM6.out⟩
    · obtain rfl : j = l.length := by omega
      have HN := Lib.hid (show firstNZ sgnM l m = 0 by rw [HF.out]; exact firstNZ_end _ _ _)
      clear hlt hj
      have hle : m.length ≤ l.length := Nat.le_of_eq HLM.out.symm
      go_wp2_with fail
      go_ret
      rw [HN.out]
      exact ⟨rfl, HMr.out⟩
set_option maxRecDepth 100000 in
set_option maxHeartbeats 4000000 in
theorem compareListM_any (l m : List M3) (v u : Value) (w : World) (hll : l.length ≤ 100000) (hlm : m.length ≤ 100000) (h : Row anyB w 3 l.length v (flatC mC l)) (k : Row anyB w 3 m.length u (flatC mC m)) :
    Calls Tryz.prog 55 #[v, u, .func (.func 58) #[.agg #[.func (.func 80) #[] #[]]] #[]] w fun e w' => e = .returned (.int .i64 (cmpL sgnM l m)) ∧ Lay w w' := by
  by_cases he : l.length = m.length
  · have HC := Lib.hid (compareFuncM_any l m v u w hll he h k)
    have HE := Lib.hid (show cmpL sgnM l m = firstNZ sgnM l m by unfold cmpL; rw [if_pos he])
    rw [HE.out]
    obtain ⟨a, cap, rfl, _⟩ := h.shape
    obtain ⟨a', cap', rfl, _⟩ := k.shape
    clear h k HE
    rw [he] at HC ⊢
    generalize firstNZ sgnM l m = r at *
    clear he hll
    generalize m.length = n at *
    go_enter Tryz.func55, Tryz.ntmps55
    go_wp2_with fail
    refine HC.out.mono ?_
    rintro e w1 ⟨rfl, hm1⟩
    have HM := Lib.hid hm1
    clear hm1
    go_wp2_with fail
    go_ret
    exact ⟨rfl, HM.out⟩
  · have HE := Lib.hid (show cmpL sgnM l m = (l.length : Int) - m.length by unfold cmpL; rw [if_neg he])
    rw [HE.out]
    obtain ⟨a, cap, rfl, _⟩ := h.shape
    obtain ⟨a', cap', rfl, _⟩ := k.shape
    have hne : ((l.length : Int) == (m.length : Int)) = false := by simp; omega
    clear h k HE he
    generalize l.length = n1 at *
    generalize m.length = n2 at *
    have hw : IntKind.i64.wrap ((n1 : Int) - (n2 : Int)) = (n1 : Int) - (n2 : Int) := by rw [IntKind.wrap_i64]; omega
    go_enter Tryz.func55, Tryz.ntmps55
    go_wp2_with fail
    go_ret
    exact ⟨rfl, Lay.refl _⟩
end Go.Proofs.YtemeppfikpafbaaGreat

