/- The contract of expr.Fold. -/
import Derived.Test.YtekhoanjpnjaeaaFold
namespace Go.Proofs.Ytekhoanjpnjaeaa
open Go.RowKit

def foldTop (t : Ex) : Ex := if t.formed = true then foldT t else t

/-- A struct value in registers that is the tree t. -/
def agg (k : IntKind) (t : Ex) (c : Value) : Value := .agg #[.int k t.op, .string t.name, .int .i64 t.n, c]

def FoldTopPost (w : World) (t : Ex) (e : Ending) (w' : World) : Prop :=
  Below w.heap.size w w' ∧ ∃ D c, e = .returned (agg .u8 (foldTop t) c) ∧ Flds .u8 (foldTop t) ∧ RepS .u8 (fun x => w.heap.size ≤ x) w' D (foldTop t).args c

theorem repAt_block {k : IntKind} {S : Nat → Prop} {w : World} {d : Nat} {t : Ex} {b : Nat} {c : Value} {T : TypeId} (hb : w.heap[b]? = some (.cells #[.int k t.op, .string t.name, .int .i64 t.n, c] T)) (hf : Flds k t) (hr : RepS k S w d t.args c) : RepAt k S w d t b 0 :=
  ⟨by simp [World.cell?, hb], by simp [World.cell?, hb], by simp [World.cell?, hb], hf, c, by simp [World.cell?, hb], hr⟩
theorem ownAt_block {w : World} {d lo hi : Nat} {t : Ex} {b : Nat} {c : Value} {T : TypeId} (hb : w.heap[b]? = some (.cells #[.int .u8 t.op, .string t.name, .int .i64 t.n, c] T)) (hf : Flds .u8 t) (hr : OwnS w d lo hi t.args c) : OwnAt w d lo hi t b 0 :=
  ⟨by simp [World.cell?, hb], by simp [World.cell?, hb], by simp [World.cell?, hb], hf, c, by simp [World.cell?, hb], hr⟩
theorem Fold_any (d : Nat) (S : Nat → Prop) (t : Ex) (c : Value) (w : World) (hf : Flds .u8 t) (hr : RepS .u8 S w d t.args c) :
    Calls Try.prog 26 #[agg .u8 t c] w (FoldTopPost w t) := by
  obtain ⟨a, cap, rfl⟩ := hr.shape
  have HF := Lib.hid hf; clear hf
  have HR := Lib.hid hr; clear hr
  unfold agg
  go_enter Try.func26, Try.ntmps26
  go_wp2_with fail
  generalize hw2 : (w.alloc (.cells #[.int .u8 t.op, .string t.name, .int .i64 t.n, .slice a t.args.length cap] 41)).alloc (.cells #[.int .u8 0, .string ⟨#[]⟩, .int .i64 0, .slice none 0 0] 41) = w2
  have hs2 : w2.heap.size = w.heap.size + 1 + 1 := by rw [← hw2]; simp
  have hB2 : Below w.heap.size w w2 := by rw [← hw2]; exact ((Below.refl _ _).alloc (Nat.le_refl _) _).alloc (by simp) _
  have e0 : w2.heap[w.heap.size]? = some (.cells #[.int .u8 t.op, .string t.name, .int .i64 t.n, .slice a t.args.length cap] 41) := by
    rw [← hw2, Below.heap_alloc _ _ _ (by simp)]; exact alloc_last _ _
  have e1 : w2.heap[w.heap.size + 1]? = some (.cells #[.int .u8 0, .string ⟨#[]⟩, .int .i64 0, .slice none 0 0] 41) := by
    rw [← hw2]; exact alloc_at _ _ (by simp)
  clear hw2
  have HS2 := Lib.hid hs2
  have HB2 := Lib.hid hB2
  have HE := Lib.hid (And.intro e0 e1)
  clear hB2 e0 e1
  refine (clone_any d S t w.heap.size 0 w2 (repAt_block HE.out.1 HF.out (HR.out.below HB2.out))).mono ?_
  rintro e w3 ⟨hb3, c3, rfl, ho3⟩
  obtain ⟨a3, cap3, rfl⟩ := ho3.shape
  have hsz3 : w.heap.size + 1 + 1 ≤ w3.heap.size := by have := hb3.size; omega
  have e1 : w3.heap[w.heap.size + 1]? = some (.cells #[.int .u8 0, .string ⟨#[]⟩, .int .i64 0, .slice none 0 0] 41) := by rw [hb3.block _ (by omega)]; exact HE.out.2
  have H3 := Lib.hid (And.intro hb3 (And.intro ho3 e1)); clear hb3 ho3 e1 hs2
  go_wp2_with fail
  generalize hw4 : w3.alloc (.cells #[.int .u8 t.op, .string t.name, .int .i64 t.n, .slice a3 t.args.length cap3] 41) = w4
  have hs4 : w4.heap.size = w3.heap.size + 1 := by rw [← hw4]; simp
  have hB4 : Below w3.heap.size w3 w4 := by rw [← hw4]; exact (Below.refl _ _).alloc (Nat.le_refl _) _
  have eR : w4.heap[w3.heap.size]? = some (.cells #[.int .u8 t.op, .string t.name, .int .i64 t.n, .slice a3 t.args.length cap3] 41) := by
    rw [← hw4]; exact alloc_last _ _
  clear hw4
  have eZ : w4.heap[w.heap.size + 1]? = some (.cells #[.int .u8 0, .string ⟨#[]⟩, .int .i64 0, .slice none 0 0] 41) := by rw [hB4.block _ (by omega)]; exact H3.out.2.2
  have hBw : Below w.heap.size w w4 := HB2.out.trans ((H3.out.1.mono (by have := HS2.out; omega)).trans (hB4.mono (by omega)))
  have hO4 : OwnS w4 d w2.heap.size w3.heap.size t.args (.slice a3 t.args.length cap3) := H3.out.2.1.mono (Nat.le_refl _) (Nat.le_refl _) (Nat.le_refl _) (fun x _ hx => hB4.block x hx)
  have H4 := Lib.hid (And.intro eR (And.intro eZ (And.intro hBw hO4)))
  have HS4 := Lib.hid hs4
  clear eR eZ hBw hO4 hB4 hs4
  refine (formed_any d (fun _ => True) t w3.heap.size 0 w4 (repAt_block H4.out.1 HF.out (H4.out.2.2.2.rep (fun _ _ _ => trivial)))).mono ?_
  cases hfm : t.formed with
  | false =>
    have HT := Lib.hid (show foldTop t = t by unfold foldTop; rw [hfm]; rfl)
    clear hfm
    rintro e w5 ⟨rfl, n, rfl⟩
    have r0 : w4.cell? ⟨w3.heap.size, 0, none⟩ = some (.int .u8 t.op) := by simp [World.cell?, H4.out.1]
    have r1 : w4.cell? ⟨w3.heap.size, 1, none⟩ = some (.string t.name) := by simp [World.cell?, H4.out.1]
    have r2 : w4.cell? ⟨w3.heap.size, 2, none⟩ = some (.int .i64 t.n) := by simp [World.cell?, H4.out.1]
    have r3 : w4.cell? ⟨w3.heap.size, 3, none⟩ = some (.slice a3 t.args.length cap3) := by simp [World.cell?, H4.out.1]
    have z0 : w4.cell? ⟨w.heap.size + 1, 0, none⟩ = some (.int .u8 0) := by simp [World.cell?, H4.out.2.1]
    have z1 : w4.cell? ⟨w.heap.size + 1, 1, none⟩ = some (.string ⟨#[]⟩) := by simp [World.cell?, H4.out.2.1]
    have z2 : w4.cell? ⟨w.heap.size + 1, 2, none⟩ = some (.int .i64 0) := by simp [World.cell?, H4.out.2.1]
    have z3 : w4.cell? ⟨w.heap.size + 1, 3, none⟩ = some (.slice none 0 0) := by simp [World.cell?, H4.out.2.1]
    have f0 := thaw H4.out.2.1 0
    have f1 := thaw H4.out.2.1 1
    have f2 := thaw H4.out.2.1 2
    have f3 := thaw H4.out.2.1 3
    go_wp2_with fail
    refine bodyPost_ret (v := .agg #[.int .u8 t.op, .string t.name, .int .i64 t.n, .slice a3 t.args.length cap3]) (by simp [results, Try.results26, go_sem, z0, z1, z2, z3]) rfl ?_
    refine ⟨set4_below (M := w.heap.size + 1) (H4.out.2.2.1.trans (below_drewN w4 n _)) (Nat.le_succ _) 0 _ _ _ _, d, .slice a3 t.args.length cap3, by rw [HT.out]; rfl, by rw [HT.out]; exact HF.out, ?_⟩
    rw [HT.out]
    refine (H4.out.2.2.2.rep (S := fun x => w2.heap.size ≤ x) (fun _ h _ => h)).mono (fun x hx => by have := HS2.out; omega) (fun x o v hx hv => ?_) (Nat.le_refl _)
    exact (set4_far (w4.drewN n) (w.heap.size + 1) 0 _ _ _ _ x o (by have := HS2.out; omega)).trans hv
  | true =>
    have HT := Lib.hid (show foldTop t = foldT t by unfold foldTop; rw [hfm]; rfl)
    have HFM := Lib.hid hfm; clear hfm
    rintro e w5 ⟨rfl, n, rfl⟩
    have HOw : Hid (OwnAt (w4.drewN n) d w2.heap.size w3.heap.size t w3.heap.size 0) := Lib.hid (OwnAt.mono (w := w4) (Nat.le_refl _) (Nat.le_refl _) (Nat.le_refl _) (fun _ _ _ h => h) (fun _ _ _ => rfl) (ownAt_block H4.out.1 HF.out H4.out.2.2.2))
    go_wp2_with fail
    refine (fold_any d w2.heap.size w3.heap.size t w3.heap.size 0 (w4.drewN n) HOw.out HFM.out (Or.inr (Nat.le_refl _)) (by show _ ≤ w4.heap.size; have := HS4.out; omega) (thaw H4.out.1)).mono ?_
    rintro e w6 ⟨rfl, hch, hrp⟩
    obtain ⟨r0, r1, r2, rf, c6, r3, rr⟩ := hrp
    obtain ⟨a6, cap6, rfl⟩ := rr.shape
    have e5 : w6.heap[w.heap.size + 1]? = some (.cells #[.int .u8 0, .string ⟨#[]⟩, .int .i64 0, .slice none 0 0] 41) := by
      rw [hch.block _ (by show _ < w4.heap.size; have := HS4.out; omega) (by omega) (by show ¬ (w2.heap.size ≤ w.heap.size + 1 ∧ w.heap.size + 1 < w3.heap.size); have := HS2.out; omega)]; exact H4.out.2.1
    have z0 : w6.cell? ⟨w.heap.size + 1, 0, none⟩ = some (.int .u8 0) := by simp [World.cell?, e5]
    have z1 : w6.cell? ⟨w.heap.size + 1, 1, none⟩ = some (.string ⟨#[]⟩) := by simp [World.cell?, e5]
    have z2 : w6.cell? ⟨w.heap.size + 1, 2, none⟩ = some (.int .i64 0) := by simp [World.cell?, e5]
    have z3 : w6.cell? ⟨w.heap.size + 1, 3, none⟩ = some (.slice none 0 0) := by simp [World.cell?, e5]
    have f0 := thaw e5 0
    have f1 := thaw e5 1
    have f2 := thaw e5 2
    have f3 := thaw e5 3
    have HB6 : Hid (Below w.heap.size w w6) := Lib.hid ⟨hch.os.trans H4.out.2.2.1.os, hch.tape.trans H4.out.2.2.1.tape, hch.output.trans H4.out.2.2.1.output, Nat.le_trans H4.out.2.2.1.size hch.size,
      fun x hx => (hch.block x (Nat.lt_of_lt_of_le hx H4.out.2.2.1.size) (by omega) (by show ¬ (w2.heap.size ≤ x ∧ x < w3.heap.size); have := HS2.out; omega)).trans (H4.out.2.2.1.block x hx)⟩
    have HRR := Lib.hid rr
    have HRF := Lib.hid rf
    clear hch rr rf e5
    simp only [Nat.zero_add] at r0 r1 r2 r3
    go_wp2_with fail
    refine bodyPost_ret (v := .agg #[.int .u8 (foldT t).op, .string (foldT t).name, .int .i64 (foldT t).n, .slice a6 (foldT t).args.length cap6]) (by simp [results, Try.results26, go_sem, z0, z1, z2, z3]) rfl ?_
    refine ⟨set4_below (M := w.heap.size + 1) HB6.out (Nat.le_succ _) 0 _ _ _ _, d + 1, .slice a6 (foldT t).args.length cap6, by rw [HT.out]; rfl, by rw [HT.out]; exact HRF.out, ?_⟩
    rw [HT.out]
    refine HRR.out.mono (fun x hx => ?_) (fun x o v hx hv => ?_) (Nat.le_refl _)
    · have h2 := HS2.out; have h4 : (w4.drewN n).heap.size = w3.heap.size + 1 := HS4.out; omega
    · have h2 := HS2.out; have h4 : (w4.drewN n).heap.size = w3.heap.size + 1 := HS4.out
      exact (set4_far w6 (w.heap.size + 1) 0 _ _ _ _ x o (by omega)).trans hv
end Go.Proofs.Ytekhoanjpnjaeaa
