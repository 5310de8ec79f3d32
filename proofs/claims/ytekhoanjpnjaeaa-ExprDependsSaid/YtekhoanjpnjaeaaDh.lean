/- Texts BuildTop, laid together. -/
import Derived.Test.YtekhoanjpnjaeaaDa
import Derived.Test.YtekhoanjpnjaeaaDg
/- The contract of ref06.Build, and its argument's reading. -/
namespace Go.Proofs.Ytekhoanjpnjaeaa
open Go.RowKit

instance : Inhabited Nd := ⟨⟨0, 0, 0, false, 0⟩⟩
def cells5 (x : Nd) : List Value := [.int .u8 x.op, .int .u8 x.name, .int .u8 x.count, .bool x.odd, .int .i64 x.n]
theorem flat5_eq (l : List Nd) : l.flatMap cells5 = flat5 l := by
  induction l with
  | nil => rfl
  | cons x xs ih => rw [List.flatMap_cons, ih]; rfl
theorem flat5_take (l : List Nd) (k : Nat) : flat5 (l.take k) = (flat5 l).take (k * 5) := by
  induction l generalizing k with
  | nil => simp [flat5]
  | cons x xs ih =>
    cases k with
    | zero => simp [flat5]
    | succ k => rw [show (k + 1) * 5 = k * 5 + 1 + 1 + 1 + 1 + 1 by omega]; simp [flat5, ih]
theorem cells208 : Try.prog.cellsOf 208 = 5 := by kernel_rfl
theorem node_elem {H : Type} {enc : TypeId × Value → H} {w : World} {base : Nat} {spare : Nat → Bool} {held : Bool} (fuel : Nat) (cs : List Value) (y : DataW H × List MemPlace) (h : DataW.trod enc Try.prog w base spare held fuel 208 cs = some y) : ∃ x : Nd, x.Ok ∧ cs = cells5 x := by
  obtain ⟨xs, n, _, _, hl, hxl, hf⟩ := DataW.trod_struct Try.underlying208 h
  rw [cells208] at hl
  have f0 := hf 0 _ rfl
  have f1 := hf 1 _ rfl
  have f2 := hf 2 _ rfl
  have f3 := hf 3 _ rfl
  have f4 := hf 4 _ rfl
  have g : ∀ j, j < 5 → ∃ z, xs[j]? = some z := fun j hj => ⟨_, List.getElem?_eq_getElem (by rw [hxl]; exact hj)⟩
  obtain ⟨z0, e0⟩ := g 0 (by omega)
  obtain ⟨z1, e1⟩ := g 1 (by omega)
  obtain ⟨z2, e2⟩ := g 2 (by omega)
  obtain ⟨z3, e3⟩ := g 3 (by omega)
  obtain ⟨z4, e4⟩ := g 4 (by omega)
  rw [e0] at f0; rw [e1] at f1; rw [e2] at f2; rw [e3] at f3; rw [e4] at f4
  obtain ⟨n0, c0, _, w0⟩ := DataW.trod_int Try.underlying5 f0
  obtain ⟨n1, c1, _, w1⟩ := DataW.trod_int Try.underlying5 f1
  obtain ⟨n2, c2, _, w2⟩ := DataW.trod_int Try.underlying5 f2
  obtain ⟨b3, c3, _⟩ := DataW.trod_bool Try.underlying4 f3
  obtain ⟨n4, c4, _, w4⟩ := DataW.trod_int Try.underlying2 f4
  have r4 := in64_of w4
  change (cs.drop 0).take (Try.prog.cellsOf 5) = _ at c0
  change (cs.drop 1).take (Try.prog.cellsOf 5) = _ at c1
  change (cs.drop 2).take (Try.prog.cellsOf 5) = _ at c2
  change (cs.drop 3).take (Try.prog.cellsOf 4) = _ at c3
  change (cs.drop 4).take (Try.prog.cellsOf 2) = _ at c4
  rw [cellsT5] at c0 c1 c2
  rw [cellsT4] at c3
  rw [cellsT2] at c4
  exact ⟨⟨n0, n1, n2, b3, n4⟩, ⟨wf8 w0, wf8 w1, wf8 w2, r4⟩, five_of hl (one_of c0) (one_of c1) (one_of c2) (one_of c3) (one_of c4)⟩

def bldTop (ns : List Nd) : Ex := (bldF 30 (ns.take 60)).1
theorem Build_any (S : Nat → Prop) (ns : List Nd) (v : Value) (w : World) (hl : ns.length ≤ maxLen) (hok : ∀ x ∈ ns, x.Ok) (hr : Row S w 5 ns.length v (flat5 ns)) :
    Calls Try.prog 24 #[v] w fun e w' => Below w.heap.size w w' ∧ ∃ c, e = .returned (agg .i64 (bldTop ns) c) ∧ Flds .i64 (bldTop ns) ∧ RepS .i64 (fun x => w.heap.size ≤ x) w' 30 (bldTop ns).args c := by
  unfold maxLen at hl
  obtain ⟨a, cap, rfl, hcap⟩ := hr.shape
  obtain ⟨k, hk1, hk2, hk3⟩ : ∃ k : Nat, k ≤ ns.length ∧ k ≤ 60 ∧ k = min ns.length 60 := ⟨min ns.length 60, by omega, by omega, rfl⟩
  have hkI : (min (ns.length : Int) 60) = (k : Int) := by omega
  have ht : ns.take 60 = ns.take k := by rw [hk3]; exact (List.take_eq_take_min).trans (by rw [Nat.min_comm])
  have HT := Lib.hid (show bldTop ns = (bldF 30 (ns.take k)).1 by unfold bldTop; rw [ht])
  have HRT := Lib.hid (show Row S w 5 (ns.take k).length (.slice a (ns.take k).length cap) (flat5 (ns.take k)) by
    rw [flat5_take, List.length_take, Nat.min_eq_left hk1]; exact hr.take hk1)
  have HOK := Lib.hid (fun x (hx : x ∈ ns.take k) => hok x (List.mem_of_mem_take hx))
  have HLT := Lib.hid (show (ns.take k).length = k by rw [List.length_take]; omega)
  clear hr hok ht
  have HK3 := Lib.hid hk3; clear hk3 hkI
  have HC : Hid (∀ w2, Below w.heap.size w w2 → Calls Try.prog 67 #[.slice a k cap, .int .i64 1] w2 fun e w' => Below w2.heap.size w2 w' ∧ ∃ c v', e = .returned (.tuple #[agg .i64 (bldTop ns) c, v']) ∧ (∃ va vl vc, v' = .slice va vl vc) ∧ Flds .i64 (bldTop ns) ∧ RepS .i64 (fun x => w2.heap.size ≤ x) w' 30 (bldTop ns).args c) := Lib.hid fun w2 hB => by
    have h := build_any 30 S (ns.take k) (.slice a (ns.take k).length cap) w2 (by rw [HLT.out]; omega) HOK.out (HRT.out.below hB) (Nat.le_refl _)
    rw [HLT.out] at h
    refine h.mono ?_
    rintro e w' ⟨h1, c, v', rfl, h2, h3, h4⟩
    obtain ⟨va, vc, rfl, _⟩ := h4.shape
    rw [HT.out]
    exact ⟨h1, c, _, rfl, ⟨_, _, _, rfl⟩, h2, h3⟩
  have fin : ∀ (w2 : World) (hw2 : w2 = w.alloc (.cells #[.int .i64 0, .string ⟨#[]⟩, .int .i64 0, .slice none 0 0] 36)), Below w.heap.size w w2 ∧ w2.heap[w.heap.size]? = some (.cells #[.int .i64 0, .string ⟨#[]⟩, .int .i64 0, .slice none 0 0] 36) ∧ w2.heap.size = w.heap.size + 1 := by
    rintro w2 rfl
    exact ⟨(Below.refl _ _).alloc (Nat.le_refl _) _, alloc_last _ _, by simp⟩
  have FIN := Lib.hid fin; clear fin
  clear HT HRT HOK HLT
  generalize bldTop ns = tt at *
  rcases (show (ns.length ≤ 60 ∧ k = ns.length) ∨ (60 < ns.length ∧ k = 60) by have := HK3.out; omega) with ⟨hc, hk⟩ | ⟨hc, hk⟩
  all_goals
    subst hk
    go_enter Try.func24, Try.ntmps24
    go_wp2_with fail
    all_goals first | (exfalso; omega) | skip
    generalize hw2 : w.alloc (.cells #[.int .i64 0, .string ⟨#[]⟩, .int .i64 0, .slice none 0 0] 36) = w2
    obtain ⟨hB2, e0, hs2⟩ := FIN.out w2 hw2.symm
    clear hw2
    have HB2 := Lib.hid hB2
    refine (HC.out w2 hB2).mono ?_
    rintro e w3 ⟨hb3, c3, v3, rfl, ⟨va, vl, vc, rfl⟩, hf3, hr3⟩
    obtain ⟨a3, cap3, rfl⟩ := hr3.shape
    have b0 : w3.heap[w.heap.size]? = some (.cells #[.int .i64 0, .string ⟨#[]⟩, .int .i64 0, .slice none 0 0] 36) := (hb3.block _ (by omega)).trans e0
    have z0 : w3.cell? ⟨w.heap.size, 0, none⟩ = some (.int .i64 0) := by simp [World.cell?, b0]
    have z1 : w3.cell? ⟨w.heap.size, 1, none⟩ = some (.string ⟨#[]⟩) := by simp [World.cell?, b0]
    have z2 : w3.cell? ⟨w.heap.size, 2, none⟩ = some (.int .i64 0) := by simp [World.cell?, b0]
    have z3 : w3.cell? ⟨w.heap.size, 3, none⟩ = some (.slice none 0 0) := by simp [World.cell?, b0]
    have f0 := thaw b0 0
    have f1 := thaw b0 1
    have f2 := thaw b0 2
    have f3 := thaw b0 3
    have hlt3 := cell_lt z0
    have HB3 := Lib.hid (hB2.trans (hb3.mono hB2.size))
    have HF3 := Lib.hid (And.intro hf3 hr3)
    have HS2 := Lib.hid (And.intro hs2 hb3.size)
    clear hb3 hf3 hr3 b0 hB2 e0 hs2
    unfold agg
    go_wp2_with fail
    refine bodyPost_ret (v := .agg #[.int .i64 tt.op, .string tt.name, .int .i64 tt.n, .slice a3 tt.args.length cap3]) (by simp [results, Try.results24, go_sem, z0, z1, z2, z3, hlt3]) rfl ?_
    refine ⟨(set4_below (M := w.heap.size) HB3.out (Nat.le_refl _) 0 _ _ _ _).alloc (by rw [set4_size]; exact HB3.out.size) _, .slice a3 tt.args.length cap3, rfl, HF3.out.1, ?_⟩
    refine HF3.out.2.mono (fun z hz => by have := HS2.out.1; omega) (fun z o v hz hv => ?_) (Nat.le_refl _)
    exact alloc_cell _ ((set4_far w3 w.heap.size 0 _ _ _ _ z o (by have := HS2.out.1; omega)).trans hv)
end Go.Proofs.Ytekhoanjpnjaeaa

