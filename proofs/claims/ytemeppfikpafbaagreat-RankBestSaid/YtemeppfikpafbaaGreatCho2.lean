/- cache.sorted (82) and its comparison (125); choice.New (86). -/
import Derived.Test.YtemeppfikpafbaaGreatBuildC
import Derived.Test.YtemeppfikpafbaaGreatDegs
import Derived.Test.YtemeppfikpafbaaGreatNilB
import Derived.StillTailTactics
namespace Go.Proofs.YtemeppfikpafbaaGreat
open Go.RowKit Go.Sort Go.Shelf
def cmpM3 (x y : M3) : Int := orI [cmpI x.f y.f, cmpI x.t y.t, cmpI x.n y.n]
theorem cmpM_by : CmpBy cmpM3 ltM where
  neg x y := by
    unfold cmpM3 ltM
    rw [orI_neg, orI_neg, orI_neg, orI_nil, cmpI_neg, cmpI_neg, cmpI_neg, cmpI_zero, cmpI_zero]
    simp
  irrefl := ltM_irrefl
  trans _ _ _ := ltM_trans
  tri _ _ := ltM_tri
theorem agg54 : ∀ w, (isAgg (Tryz.sortMsg_ren.t 24)).run Tryz.prog w = .ok true w := fun _ => by kernel_rfl
theorem size54 : ∀ w, (Go.sizeOf (Tryz.sortMsg_ren.t 24)).run Tryz.prog w = .ok 3 w := fun _ => by kernel_rfl
theorem mC_one' (x : M3) : ∀ v ∈ mC x, v.oneCell' = true := by intro v hv; simp [mC] at hv; rcases hv with rfl | rfl | rfl <;> rfl
def srtM (l : List M3) : List M3 := l.mergeSort fun x y => !(ltOf cmpM3) y x
theorem chC_one (x : Ch) : ∀ v ∈ chC x, v.oneCell' = true := by intro v hv; simp [chC] at hv; rcases hv with rfl | rfl | rfl | rfl | rfl | rfl | rfl <;> rfl
def srtK (s : List K4) : List K4 := s.mergeSort fun x y => !(ltOf cmpK4) y x
def withT (f : K4 → Int) (s : List K4) : List Ch := s.map fun k => ⟨k, f k⟩
theorem flat_withT (f : K4 → Int) (s : List K4) : flatC (fun k => chC ⟨k, f k⟩) s = flatC chC (withT f s) := by
  unfold flatC withT
  rw [List.flatMap_map]
theorem srtM_len (l : List M3) : (srtM l).length = l.length := List.length_mergeSort _
theorem mem_srtM (l : List M3) (x : M3) : x ∈ srtM l ↔ x ∈ l := List.mem_mergeSort
set_option maxRecDepth 100000 in
set_option maxHeartbeats 1000000 in
theorem cloneM_own (l : List M3) (v : Value) (w : World) (hl : l.length ≤ 1000000) (h : Row anyB w 3 l.length v (flatC mC l)) (hn : NilA v) :
    Calls Tryz.prog 23 #[v] w fun e w' => (∃ v', e = .returned v' ∧ w'.ownsRow w.heap.size 57 3 v' l.length (flatC mC l)) ∧ Below w.heap.size w w' := by
  obtain ⟨a, cap, rfl, _⟩ := h.shape
  obtain ⟨i0, hi0, hz0, hz1, hz2⟩ := info_parts info54
  have hq := fun W => Lib.run_eql_slice_nil (P := Tryz.prog) W 32 57 a l.length cap 0 0 Tryz.underlying32
  cases a with
  | none =>
    obtain rfl := hn _ _ rfl
    have HR := Lib.hid h; clear h
    go_enter Tryz.func23, Tryz.ntmps23
    go_wp2_with fail
    go_ret
    have e0 : l = [] := by
      cases l with
      | nil => rfl
      | cons x r => obtain ⟨_, _, he, _⟩ := HR.out.at (by simp); cases he
    subst e0
    exact ⟨⟨_, rfl, World.ownsRow_nil _ _ _ _⟩, Below.refl _ _⟩
  | some ta =>
    have HR := Lib.hid h; clear h
    have HM := Lib.hid (more_alloc w (.cells #[] 57))
    have HN := Lib.hid (row_news mC_len (HR.out.below HM.out.below))
    have HO := Lib.hid (ownsRow_empty w 57 3)
    have HB := Lib.hid ((Below.refl w.heap.size w).alloc (Nat.le_refl _) (.cells #[] 57))
    have hm1 : 0 + l.length ≤ maxLen := by unfold maxLen; omega
    have hm2 : (0 + l.length) * 24 ≤ 140737488355328 := by omega
    go_enter Tryz.func23, Tryz.ntmps23
    go_wp2_with (at_builtin; refine wpList_append_own _ rfl _ _ 32 rfl w.heap.size 57 i0 _ 3 24 Tryz.underlying32 hi0 hz0 hz1 hz2 rfl (by omega) (.slice (some ⟨w.heap.size, 0, none⟩) 0 0) 0 [] rfl HO.out ta l.length cap (flatC mC l) rfl (flatC_len mC_len l) HN.out (mC_one l) hm1 hm2 (by rw [World.size_alloc]; omega) ?_; intro v6 w6 hown6 hgrow6 _)
    have HB6 := Lib.hid (HB.out.grown hgrow6 (by rw [World.size_alloc]; omega) (fun z hz => by simp [Value.ownBlock] at hz; omega))
    have HO6 := Lib.hid (show w6.ownsRow w.heap.size 57 3 v6 l.length (flatC mC l) by simpa using hown6)
    clear hown6 hgrow6
    go_wp2_with fail
    go_ret
    exact ⟨⟨_, rfl, HO6.out⟩, HB6.out⟩
end Go.Proofs.YtemeppfikpafbaaGreat
