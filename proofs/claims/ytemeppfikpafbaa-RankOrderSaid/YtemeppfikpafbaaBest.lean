/- slices.Clone (80, 81); how many causes rank.Best (34) returns. -/
import Derived.Test.YtemeppfikpafbaaJointW
namespace Go.Proofs.Ytemeppfikpafbaa
open Go.RowKit
theorem ownsRow_empty (w : World) (e : TypeId) (size : Nat) : (w.alloc (.cells #[] e)).ownsRow w.heap.size e size (.slice (some ⟨w.heap.size, 0, none⟩) 0 0) 0 [] :=
  World.ownsRow_made (base := w.heap.size) (e := e) (size := size) w #[] 0 (Nat.le_refl _) (by unfold maxLen; omega) (by simp)
theorem owns_nil {w : World} {B : Nat} {e : TypeId} {n size : Nat} {v : Value} {xs : List Value} (h : w.ownsRow B e size v n xs) : NilA v := by
  obtain ⟨_, h | ⟨g, cap, cur, rfl, _⟩⟩ := h
  · rw [h.1]; intro n c e; cases e; rfl
  · intro n c e; cases e
theorem mC_one (l : List M3) : ∀ u ∈ flatC mC l, u.oneCell' = true := by
  intro u hu
  unfold flatC at hu
  obtain ⟨x, _, hx⟩ := List.mem_flatMap.1 hu
  simp [mC] at hx
  rcases hx with rfl | rfl | rfl <;> rfl
theorem row_news {α : Type} {c : α → List Value} {k : Nat} (hk : ∀ x, (c x).length = k) {w : World} {l : List α} {ta : Addr} {cap : Nat} (h : Row anyB w k l.length (.slice (some ta) l.length cap) (flatC c l)) : ∀ i u, (flatC c l)[i]? = some u → w.cell? (ta.add i) = some u := fun i u hu => by
  have hne : l.length ≠ 0 := by
    intro e
    have : l = [] := List.length_eq_zero_iff.1 e
    rw [this] at hu; simp [flatC] at hu
  obtain ⟨b2, off2, he, _, _, hc2⟩ := h.at hne
  cases he
  rw [Addr.add_lit]
  exact hc2 i u hu
set_option maxRecDepth 100000 in
set_option maxHeartbeats 1000000 in
theorem cloneK_any (l : List K4) (v : Value) (w : World) (hl : l.length ≤ 1000000) (h : Row anyB w 4 l.length v (flatC kC l)) (hn : NilA v) :
    Calls Try.prog 80 #[v] w fun e w' => (∃ v', e = .returned v' ∧ Row anyB w' 4 l.length v' (flatC kC l) ∧ NilA v') ∧ Below w.heap.size w w' := by
  obtain ⟨a, cap, rfl, _⟩ := h.shape
  obtain ⟨i0, hi0, hz0, hz1, hz2⟩ := info_parts info48
  have hq := fun W => Lib.run_eql_slice_nil (P := Try.prog) W 27 48 a l.length cap 0 0 Try.underlying27
  cases a with
  | none =>
    obtain rfl := hn _ _ rfl
    have HR := Lib.hid h; clear h
    go_enter Try.func80, Try.ntmps80
    go_wp2_with fail
    go_ret
    have e0 : l = [] := by
      cases l with
      | nil => rfl
      | cons x r => obtain ⟨_, _, he, _⟩ := HR.out.at (by simp); cases he
    subst e0
    exact ⟨⟨_, rfl, Row.nil _ _ _ _ _, fun n c e => by cases e; rfl⟩, Below.refl _ _⟩
  | some ta =>
    have HR := Lib.hid h; clear h
    have HM := Lib.hid (more_alloc w (.cells #[] 48))
    have HN := Lib.hid (row_news kC_len (HR.out.below HM.out.below))
    have HO := Lib.hid (ownsRow_empty w 48 4)
    have HB := Lib.hid ((Below.refl w.heap.size w).alloc (Nat.le_refl _) (.cells #[] 48))
    have hm1 : 0 + l.length ≤ maxLen := by unfold maxLen; omega
    have hm2 : (0 + l.length) * 32 ≤ 140737488355328 := by omega
    go_enter Try.func80, Try.ntmps80
    go_wp2_with (at_builtin; refine wpList_append_own _ rfl _ _ 27 rfl w.heap.size 48 i0 _ 4 32 Try.underlying27 hi0 hz0 hz1 hz2 rfl (by omega) (.slice (some ⟨w.heap.size, 0, none⟩) 0 0) 0 [] rfl HO.out ta l.length cap (flatC kC l) rfl (flatC_len kC_len l) HN.out (kC_one l) hm1 hm2 (by rw [World.size_alloc]; omega) ?_; intro v6 w6 hown6 hgrow6 _)
    have HB6 := Lib.hid (HB.out.grown hgrow6 (by rw [World.size_alloc]; omega) (fun z hz => by simp [Value.ownBlock] at hz; omega))
    have HO6 := Lib.hid (show w6.ownsRow w.heap.size 48 4 v6 l.length (flatC kC l) by simpa using hown6)
    clear hown6 hgrow6
    go_wp2_with fail
    go_ret
    exact ⟨⟨_, rfl, (Row.of_owns HO6.out).mono (fun _ _ => trivial) (fun _ _ _ _ h => h), owns_nil HO6.out⟩, HB6.out⟩
set_option maxRecDepth 100000 in
set_option maxHeartbeats 1000000 in
theorem cloneM_any (l : List M3) (v : Value) (w : World) (hl : l.length ≤ 1000000) (h : Row anyB w 3 l.length v (flatC mC l)) (hn : NilA v) :
    Calls Try.prog 81 #[v] w fun e w' => (∃ v', e = .returned v' ∧ Row anyB w' 3 l.length v' (flatC mC l) ∧ NilA v') ∧ Below w.heap.size w w' := by
  obtain ⟨a, cap, rfl, _⟩ := h.shape
  obtain ⟨i0, hi0, hz0, hz1, hz2⟩ := info_parts info54
  have hq := fun W => Lib.run_eql_slice_nil (P := Try.prog) W 28 54 a l.length cap 0 0 Try.underlying28
  cases a with
  | none =>
    obtain rfl := hn _ _ rfl
    have HR := Lib.hid h; clear h
    go_enter Try.func81, Try.ntmps81
    go_wp2_with fail
    go_ret
    have e0 : l = [] := by
      cases l with
      | nil => rfl
      | cons x r => obtain ⟨_, _, he, _⟩ := HR.out.at (by simp); cases he
    subst e0
    exact ⟨⟨_, rfl, Row.nil _ _ _ _ _, fun n c e => by cases e; rfl⟩, Below.refl _ _⟩
  | some ta =>
    have HR := Lib.hid h; clear h
    have HM := Lib.hid (more_alloc w (.cells #[] 54))
    have HN := Lib.hid (row_news mC_len (HR.out.below HM.out.below))
    have HO := Lib.hid (ownsRow_empty w 54 3)
    have HB := Lib.hid ((Below.refl w.heap.size w).alloc (Nat.le_refl _) (.cells #[] 54))
    have hm1 : 0 + l.length ≤ maxLen := by unfold maxLen; omega
    have hm2 : (0 + l.length) * 24 ≤ 140737488355328 := by omega
    go_enter Try.func81, Try.ntmps81
    go_wp2_with (at_builtin; refine wpList_append_own _ rfl _ _ 28 rfl w.heap.size 54 i0 _ 3 24 Try.underlying28 hi0 hz0 hz1 hz2 rfl (by omega) (.slice (some ⟨w.heap.size, 0, none⟩) 0 0) 0 [] rfl HO.out ta l.length cap (flatC mC l) rfl (flatC_len mC_len l) HN.out (mC_one l) hm1 hm2 (by rw [World.size_alloc]; omega) ?_; intro v6 w6 hown6 hgrow6 _)
    have HB6 := Lib.hid (HB.out.grown hgrow6 (by rw [World.size_alloc]; omega) (fun z hz => by simp [Value.ownBlock] at hz; omega))
    have HO6 := Lib.hid (show w6.ownsRow w.heap.size 54 3 v6 l.length (flatC mC l) by simpa using hown6)
    clear hown6 hgrow6
    go_wp2_with fail
    go_ret
    exact ⟨⟨_, rfl, (Row.of_owns HO6.out).mono (fun _ _ => trivial) (fun _ _ _ _ h => h), owns_nil HO6.out⟩, HB6.out⟩
end Go.Proofs.Ytemeppfikpafbaa
