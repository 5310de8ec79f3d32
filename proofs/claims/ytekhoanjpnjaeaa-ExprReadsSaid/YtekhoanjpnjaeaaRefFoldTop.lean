/- The contract of ref10.Fold. -/
import Derived.Test.YtekhoanjpnjaeaaRefFold
namespace Go.Proofs.Ytekhoanjpnjaeaa
open Go.RowKit
theorem rFold_any (d : Nat) (S : Nat → Prop) (t : Ex) (c : Value) (w : World) (hf : Flds .i64 t) (hr : RepS .i64 S w d t.args c) :
    Calls Try.prog 28 #[agg .i64 t c] w fun e w' => Below w.heap.size w w' ∧ ∃ c', e = .returned (agg .i64 (foldTop t) c') ∧ Flds .i64 (foldTop t) ∧ RepS .i64 (fun _ => True) w' (d + 1) (foldTop t).args c' := by
  obtain ⟨a, cap, rfl⟩ := hr.shape
  have HF := Lib.hid hf; clear hf
  have HR := Lib.hid hr; clear hr
  unfold agg
  go_enter Try.func28, Try.ntmps28
  go_wp2_with fail
  generalize hw2 : (w.alloc (.cells #[.int .i64 t.op, .string t.name, .int .i64 t.n, .slice a t.args.length cap] 36)).alloc (.cells #[.int .i64 0, .string ⟨#[]⟩, .int .i64 0, .slice none 0 0] 36) = w2
  have hB2 : Below w.heap.size w w2 := by rw [← hw2]; exact ((Below.refl _ _).alloc (Nat.le_refl _) _).alloc (by simp) _
  have e0 : w2.heap[w.heap.size]? = some (.cells #[.int .i64 t.op, .string t.name, .int .i64 t.n, .slice a t.args.length cap] 36) := by
    rw [← hw2, Below.heap_alloc _ _ _ (by simp)]; exact alloc_last _ _
  have e1 : w2.heap[w.heap.size + 1]? = some (.cells #[.int .i64 0, .string ⟨#[]⟩, .int .i64 0, .slice none 0 0] 36) := by
    rw [← hw2]; exact alloc_at _ _ (by simp)
  have hs2 : w2.heap.size = w.heap.size + 1 + 1 := by rw [← hw2]; simp
  clear hw2
  have HB2 := Lib.hid hB2
  have HS2 := Lib.hid hs2
  have HE := Lib.hid (And.intro e0 e1)
  clear hB2 e0 e1 hs2
  refine (rformed_any d S t (.slice a t.args.length cap) w2 HF.out (HR.out.below HB2.out)).mono ?_
  cases hfm : t.formed with
  | false =>
    have HT := Lib.hid (show foldTop t = t by unfold foldTop; rw [hfm]; rfl)
    clear hfm
    rintro e w3 ⟨rfl, hb3⟩
    have b0 : w3.heap[w.heap.size]? = _ := (hb3.block _ (by have := HS2.out; omega)).trans HE.out.1
    have b1 : w3.heap[w.heap.size + 1]? = _ := (hb3.block _ (by have := HS2.out; omega)).trans HE.out.2
    have x0 : w3.cell? ⟨w.heap.size, 0, none⟩ = some (.int .i64 t.op) := by simp [World.cell?, b0]
    have x1 : w3.cell? ⟨w.heap.size, 1, none⟩ = some (.string t.name) := by simp [World.cell?, b0]
    have x2 : w3.cell? ⟨w.heap.size, 2, none⟩ = some (.int .i64 t.n) := by simp [World.cell?, b0]
    have x3 : w3.cell? ⟨w.heap.size, 3, none⟩ = some (.slice a t.args.length cap) := by simp [World.cell?, b0]
    have z0 : w3.cell? ⟨w.heap.size + 1, 0, none⟩ = some (.int .i64 0) := by simp [World.cell?, b1]
    have z1 : w3.cell? ⟨w.heap.size + 1, 1, none⟩ = some (.string ⟨#[]⟩) := by simp [World.cell?, b1]
    have z2 : w3.cell? ⟨w.heap.size + 1, 2, none⟩ = some (.int .i64 0) := by simp [World.cell?, b1]
    have z3 : w3.cell? ⟨w.heap.size + 1, 3, none⟩ = some (.slice none 0 0) := by simp [World.cell?, b1]
    have f0 := thaw b1 0
    have f1 := thaw b1 1
    have f2 := thaw b1 2
    have f3 := thaw b1 3
    have HB3 := Lib.hid (HB2.out.trans (hb3.mono HB2.out.size)); clear hb3 b0 b1
    go_wp2_with fail
    refine bodyPost_ret (v := .agg #[.int .i64 t.op, .string t.name, .int .i64 t.n, .slice a t.args.length cap]) (by simp [results, Try.results28, go_sem, z0, z1, z2, z3]) rfl ?_
    refine ⟨set4_below (M := w.heap.size + 1) HB3.out (Nat.le_succ _) 0 _ _ _ _, .slice a t.args.length cap, by rw [HT.out], by rw [HT.out]; exact HF.out, ?_⟩
    rw [HT.out]
    exact HR.out.mono2 (fun x o v hx hv => ⟨trivial, (set4_far w3 (w.heap.size + 1) 0 _ _ _ _ x o (by have := cell_lt hv; omega)).trans (below_cell HB3.out hv)⟩) (by omega)
  | true =>
    have HT := Lib.hid (show foldTop t = foldT t by unfold foldTop; rw [hfm]; rfl)
    have HFM := Lib.hid hfm; clear hfm
    rintro e w3 ⟨rfl, hb3⟩
    have b0 : w3.heap[w.heap.size]? = _ := (hb3.block _ (by have := HS2.out; omega)).trans HE.out.1
    have b1 : w3.heap[w.heap.size + 1]? = _ := (hb3.block _ (by have := HS2.out; omega)).trans HE.out.2
    have x0 : w3.cell? ⟨w.heap.size, 0, none⟩ = some (.int .i64 t.op) := by simp [World.cell?, b0]
    have x1 : w3.cell? ⟨w.heap.size, 1, none⟩ = some (.string t.name) := by simp [World.cell?, b0]
    have x2 : w3.cell? ⟨w.heap.size, 2, none⟩ = some (.int .i64 t.n) := by simp [World.cell?, b0]
    have x3 : w3.cell? ⟨w.heap.size, 3, none⟩ = some (.slice a t.args.length cap) := by simp [World.cell?, b0]
    have z0 : w3.cell? ⟨w.heap.size + 1, 0, none⟩ = some (.int .i64 0) := by simp [World.cell?, b1]
    have z1 : w3.cell? ⟨w.heap.size + 1, 1, none⟩ = some (.string ⟨#[]⟩) := by simp [World.cell?, b1]
    have z2 : w3.cell? ⟨w.heap.size + 1, 2, none⟩ = some (.int .i64 0) := by simp [World.cell?, b1]
    have z3 : w3.cell? ⟨w.heap.size + 1, 3, none⟩ = some (.slice none 0 0) := by simp [World.cell?, b1]
    have f0 := thaw b1 0
    have f1 := thaw b1 1
    have f2 := thaw b1 2
    have f3 := thaw b1 3
    have HS3 := Lib.hid (show w.heap.size + 1 + 1 ≤ w3.heap.size by have := hb3.size; have := HS2.out; omega)
    have HB3 := Lib.hid (HB2.out.trans (hb3.mono HB2.out.size)); clear hb3 b0 b1
    go_wp2_with fail
    refine (rfold_any d S t (.slice a t.args.length cap) w3 HF.out (HR.out.below HB3.out) HFM.out).mono ?_
    rintro e w4 ⟨hb4, c4, rfl, hf4, hr4⟩
    obtain ⟨a4, cap4, rfl⟩ := hr4.shape
    have y0 := below_cell hb4 z0
    have y1 := below_cell hb4 z1
    have y2 := below_cell hb4 z2
    have y3 := below_cell hb4 z3
    have u0 := below_thaw hb4 z0 f0
    have u1 := below_thaw hb4 z1 f1
    have u2 := below_thaw hb4 z2 f2
    have u3 := below_thaw hb4 z3 f3
    have H4 := Lib.hid (And.intro hf4 hr4)
    have HB4 := Lib.hid (HB3.out.trans (hb4.mono HB3.out.size))
    clear hb4 hf4 hr4
    unfold agg
    go_wp2_with fail
    refine bodyPost_ret (v := .agg #[.int .i64 (foldT t).op, .string (foldT t).name, .int .i64 (foldT t).n, .slice a4 (foldT t).args.length cap4]) (by simp [results, Try.results28, go_sem, y0, y1, y2, y3]) rfl ?_
    refine ⟨set4_below (M := w.heap.size + 1) HB4.out (Nat.le_succ _) 0 _ _ _ _, .slice a4 (foldT t).args.length cap4, by rw [HT.out], by rw [HT.out]; exact H4.out.1, ?_⟩
    rw [HT.out]
    refine H4.out.2.mono (fun _ _ => trivial) (fun x o v hx hv => ?_) (Nat.le_refl _)
    have h3 := HS3.out
    exact (set4_far w4 (w.heap.size + 1) 0 _ _ _ _ x o (by omega)).trans hv
end Go.Proofs.Ytekhoanjpnjaeaa
