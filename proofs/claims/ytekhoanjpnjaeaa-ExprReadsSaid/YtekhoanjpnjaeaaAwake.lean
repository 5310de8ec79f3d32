/- The contract of rootcauselaw10.awake: it returns true. -/
import Derived.Test.YtekhoanjpnjaeaaFoldTop
namespace Go.Proofs.Ytekhoanjpnjaeaa
open Go.RowKit

def tryT : Ex := .node 10 ByteArray.empty 0 [.node 18 ByteArray.empty 0 [.node 1 ByteArray.empty 1 [], .node 1 ByteArray.empty 2 []]]
theorem tryT_fold : foldTop tryT = .node 3 ByteArray.empty 0 [] := by
  simp [tryT, foldTop, Ex.formed, Ex.formedL, opnd, foldT, foldL, foldN, allC, constV, foldV, valsC, binV, unV, litT, Ex.op, Ex.n, Ex.args, tr]

theorem awake_any (w : World) : Calls Try.prog 19 #[] w fun e w' => e = .returned (.bool true) ∧ Below w.heap.size w w' := by
  go_enter Try.func19, Try.ntmps19
  go_wp2_with fail
  refine (binary_any 12 (-7) 2 _).mono ?_
  rw [show binV 12 (-7) 2 = (-3, 0) from by decide +kernel]
  rintro e w' ⟨rfl, rfl⟩
  go_wp2_with fail
  refine (binary_any 13 (-7) 2 _).mono ?_
  rw [show binV 13 (-7) 2 = (-1, 0) from by decide +kernel]
  rintro e w' ⟨rfl, rfl⟩
  go_wp2_with fail
  refine (binary_any 12 7 0 _).mono ?_
  rw [show binV 12 7 0 = (0, 0) from by decide +kernel]
  rintro e w' ⟨rfl, rfl⟩
  go_wp2_with fail
  refine (binary_any 22 2 1 _).mono ?_
  rw [show binV 22 2 1 = (1, 0) from by decide +kernel]
  rintro e w' ⟨rfl, rfl⟩
  go_wp2_with fail
  generalize hw2 : (w.alloc (.cells #[.int .u8 1, .string ⟨#[]⟩, .int .i64 1, .slice none 0 0, .int .u8 1, .string ⟨#[]⟩, .int .i64 2, .slice none 0 0] 41)).alloc (.cells #[.int .u8 18, .string ⟨#[]⟩, .int .i64 0, .slice (some ⟨w.heap.size, 0, none⟩) 2 2] 41) = w2
  have hB2 : Below w.heap.size w w2 := by rw [← hw2]; exact ((Below.refl _ _).alloc (Nat.le_refl _) _).alloc (by simp) _
  have hR : RepS .u8 (fun _ => True) w2 2 tryT.args (.slice (some ⟨w.heap.size + 1, 0, none⟩) 1 1) := by
    have e0 : w2.heap[w.heap.size]? = some (.cells #[.int .u8 1, .string ⟨#[]⟩, .int .i64 1, .slice none 0 0, .int .u8 1, .string ⟨#[]⟩, .int .i64 2, .slice none 0 0] 41) := by
      rw [← hw2, Below.heap_alloc _ _ _ (by simp)]; exact alloc_last _ _
    have e1 : w2.heap[w.heap.size + 1]? = some (.cells #[.int .u8 18, .string ⟨#[]⟩, .int .i64 0, .slice (some ⟨w.heap.size, 0, none⟩) 2 2] 41) := by
      rw [← hw2]; exact alloc_at _ _ (by simp)
    refine RepS.mk rfl trivial (fun i hi => ?_)
    obtain rfl : i = 0 := by simpa [tryT, Ex.args] using hi
    refine ⟨by simp [World.cell?, e1]; rfl, by simp [World.cell?, e1]; rfl, by simp [World.cell?, e1]; rfl, ⟨show (Lit.int .u8 18).wf = true by decide, show (Lit.int .i64 0).wf = true by decide, Nat.zero_le _, show 2 < 4294967296 by decide⟩, _, by simp [World.cell?, e1]; rfl, ?_⟩
    refine RepS.mk rfl trivial (fun i hi => ?_)
    rcases (show i = 0 ∨ i = 1 by have : i < 2 := hi; omega) with rfl | rfl
    · exact ⟨by simp [World.cell?, e0]; rfl, by simp [World.cell?, e0]; rfl, by simp [World.cell?, e0]; rfl, ⟨show (Lit.int .u8 1).wf = true by decide, show (Lit.int .i64 1).wf = true by decide, Nat.zero_le _, show 0 < 4294967296 by decide⟩, .slice none 0 0, by simp [World.cell?, e0], RepS.nil _ _ _⟩
    · exact ⟨by simp [World.cell?, e0]; rfl, by simp [World.cell?, e0]; rfl, by simp [World.cell?, e0]; rfl, ⟨show (Lit.int .u8 1).wf = true by decide, show (Lit.int .i64 2).wf = true by decide, Nat.zero_le _, show 0 < 4294967296 by decide⟩, .slice none 0 0, by simp [World.cell?, e0], RepS.nil _ _ _⟩
  clear hw2
  have HB2 := Lib.hid hB2; clear hB2
  have HR := Lib.hid hR; clear hR
  refine (Fold_any 2 (fun _ => True) tryT (.slice (some ⟨w.heap.size + 1, 0, none⟩) 1 1) w2 ⟨by decide, by decide, Nat.zero_le _, by decide⟩ HR.out).mono ?_
  unfold FoldTopPost
  rw [tryT_fold]
  rintro e w3 ⟨hb3, D, c3, rfl, _, hr3⟩
  obtain ⟨a3, cap3, rfl⟩ := hr3.shape
  have HB3 := Lib.hid (HB2.out.trans (hb3.mono HB2.out.size)); clear hb3 hr3
  simp only [agg, Ex.op, Ex.name, Ex.n, Ex.args]
  go_wp2_with fail
  go_ret
  exact ⟨rfl, HB3.out.alloc HB3.out.size _⟩
end Go.Proofs.Ytekhoanjpnjaeaa
