/- The contract of rootcauselaw05.Expr: the same tree, in the program's own form. -/
import Derived.Test.YtekhoanjpnjaeaaFoldTop
import Derived.Test.YtekhoanjpnjaeaaGrow
import Derived.Deep.RegionLaw
import Derived.Deep.AppendLies
namespace Go.Proofs.Ytekhoanjpnjaeaa
open Go.RowKit

/-- The world at the head of the loop: N, N + 1, N + 2 are the boxed argument, the result and 'out'. -/
structure ConvInv (w : World) (t : Ex) (d k : Nat) (wr : World) : Prop where
  below : Below w.heap.size w wr
  size : w.heap.size + 1 + 1 + 1 ≤ wr.heap.size
  res : wr.heap[w.heap.size + 1]? = some (.cells #[.int .u8 0, .string ⟨#[]⟩, .int .i64 0, .slice none 0 0] 41)
  out : ∃ sv, wr.heap[w.heap.size + 1 + 1]? = some (.cells #[.int .u8 t.op, .string t.name, .int .i64 t.n, sv] 41) ∧ Grow .u8 41 (w.heap.size + 1 + 1 + 1) wr (d - 1) sv (t.args.take k)

theorem grown_cell {w w' : World} {row : Option Nat} (h : w.grownBy w' row) {b o : Nat} {v : Value} (hc : w.cell? ⟨b, o, none⟩ = some v) (hr : row ≠ some b) : w'.cell? ⟨b, o, none⟩ = some v := by
  rw [World.cell?_of_block (w := w) (a := ⟨b, o, none⟩) (h.block b (cell_lt hc) (fun e => hr e.symm))]; exact hc
theorem grown_thaw {w w' : World} {row : Option Nat} (h : w.grownBy w' row) {b o : Nat} {v : Value} (hc : w.cell? ⟨b, o, none⟩ = some v) (hf : w.frozen? ⟨b, o, none⟩ = false) (hr : row ≠ some b) : w'.frozen? ⟨b, o, none⟩ = false := by
  rw [World.frozen?_of_block (w := w) (a := ⟨b, o, none⟩) (h.block b (cell_lt hc) (fun e => hr e.symm))]; exact hf
theorem keep_chain {wr w0 w1 : World} (h0 : Below wr.heap.size wr w0) (h1 : Below w0.drew.heap.size w0.drew w1) (o : Obj) {x : Nat} (hx : x < wr.heap.size) : (w1.alloc o).heap[x]? = wr.heap[x]? := by
  have e1 : x < w0.heap.size := Nat.lt_of_lt_of_le hx h0.size
  rw [Below.heap_alloc _ _ _ (Nat.lt_of_lt_of_le e1 h1.size), h1.block x e1]
  exact h0.block x hx

theorem ConvInv.step {w wr w0 w1 w2 : World} {t x : Ex} {d' k : Nat} {sv sv' : Value} {o : Obj} (hI : ConvInv w t (d' + 1) k wr) (hk : k < t.args.length) (hx : t.args[k] = x)
    (hsv : wr.heap[w.heap.size + 1 + 1]? = some (.cells #[.int .u8 t.op, .string t.name, .int .i64 t.n, sv] 41)) (h0 : Below wr.heap.size wr w0) (h1 : Below w0.drew.heap.size w0.drew w1)
    (hg : (w1.alloc o).grownBy w2 sv.ownBlock) (hgrow : Grow .u8 41 (w.heap.size + 1 + 1 + 1) w2 d' sv' (t.args.take k ++ [x])) (hon : ∀ y, sv.ownBlock = some y → w.heap.size + 1 + 1 + 1 ≤ y) :
    ConvInv w t (d' + 1) (k + 1) (w2.setCell ⟨w.heap.size + 1 + 1, 3, none⟩ sv') := by
  have hs := hI.size
  have e2 : ∀ y, y < wr.heap.size → y < w.heap.size + 1 + 1 + 1 → w2.heap[y]? = wr.heap[y]? := by
    intro y hy hy'
    have hs1 : w0.heap.size ≤ w1.heap.size := h1.size
    rw [hg.block y (by rw [World.size_alloc]; have := h0.size; omega) (fun e => by have := hon y e.symm; omega)]
    exact keep_chain h0 h1 _ hy
  have hs2 : wr.heap.size ≤ w2.heap.size := by
    have hs1 : w0.heap.size ≤ w1.heap.size := h1.size
    have := hg.size; have := h0.size; rw [World.size_alloc] at *; omega
  refine ⟨⟨?_, ?_, ?_, ?_, fun y hy => ?_⟩, ?_, ?_, ⟨sv', ?_, ?_⟩⟩
  · exact hg.os.trans (h1.os.trans (h0.os.trans hI.below.os))
  · exact hg.tape.trans (h1.tape.trans (h0.tape.trans hI.below.tape))
  · exact hg.output.trans (h1.output.trans (h0.output.trans hI.below.output))
  · have : (w2.setCell ⟨w.heap.size + 1 + 1, 3, none⟩ sv').heap.size = w2.heap.size := by simp [World.setCell]
    omega
  · rw [Below.heap_setCell _ _ _ _ (show y ≠ w.heap.size + 1 + 1 by omega), e2 y (by omega) (by omega)]; exact hI.below.block y hy
  · have : (w2.setCell ⟨w.heap.size + 1 + 1, 3, none⟩ sv').heap.size = w2.heap.size := by simp [World.setCell]
    omega
  · rw [Below.heap_setCell _ _ _ _ (show w.heap.size + 1 ≠ w.heap.size + 1 + 1 by omega), e2 _ (by omega) (by omega)]; exact hI.res
  · rw [heap_setCell_same _ _ _ _ _ _ ((e2 _ (by omega) (by omega)).trans hsv)]; rfl
  · have ht : t.args.take (k + 1) = t.args.take k ++ [x] := by rw [List.take_succ_eq_append_getElem hk, hx]
    rw [ht]
    exact hgrow.keep (fun y hy _ => Below.heap_setCell _ _ _ _ (show y ≠ w.heap.size + 1 + 1 by omega))
theorem ConvInv.start (w : World) (t : Ex) (d : Nat) (c : Value) : ConvInv w t d 0 (((w.alloc (.cells #[.int .i64 t.op, .string t.name, .int .i64 t.n, c] 36)).alloc (.cells #[.int .u8 0, .string ⟨#[]⟩, .int .i64 0, .slice none 0 0] 41)).alloc
    (.cells #[.int .u8 t.op, .string t.name, .int .i64 t.n, .slice none 0 0] 41)) := by
  refine ⟨(((Below.refl _ _).alloc (Nat.le_refl _) _).alloc (by simp) _).alloc (by simp; omega) _, by simp, ?_, ⟨_, ?_, Grow.nil _ _ _ _ _⟩⟩
  · rw [Below.heap_alloc _ _ _ (by simp)]; exact alloc_at _ _ (by simp)
  · exact alloc_at _ _ (by simp)

set_option maxRecDepth 100000 in
theorem conv_any (d : Nat) : ∀ (S : Nat → Prop) (t : Ex) (c : Value) (w : World), Flds .i64 t → RepS .i64 S w d t.args c →
    Calls Try.prog 27 #[agg .i64 t c] w fun e w' => Below w.heap.size w w' ∧ ∃ c', e = .returned (agg .u8 t c') ∧ RepS .u8 (fun x => w.heap.size ≤ x) w' d t.args c' := by
  induction d using Nat.strongRecOn with
  | _ d ih =>
    intro S t c w hf hr
    have IH := Lib.hid ih; clear ih
    obtain ⟨a, cap, rfl⟩ := hr.shape
    have HF := Lib.hid hf
    have HR := Lib.hid hr; clear hr
    have hlen := hf.len
    have hop : 0 ≤ t.op ∧ t.op ≤ 255 := by have := hf.op; simpa [Lit.wf, IntKind.min, IntKind.max, IntKind.signed, IntKind.bits] using this
    obtain ⟨ho1, ho2⟩ := hop
    clear hf
    unfold agg
    go_enter Try.func27, Try.ntmps27
    go_wp2_with fail
    go_loopw [17] (fun i wr => ∃ k : Nat, k ≤ t.args.length ∧ i = .int .i64 k ∧ ConvInv w t d k wr) (fun i _ => t.args.length - (intOf i).toNat)
    case atStart => exact ⟨0, Nat.zero_le _, rfl, ConvInv.start w t d _⟩
    case round =>
      obtain ⟨k, hk, rfl, hinv⟩ := hrel
      have HI := Lib.hid hinv; clear hinv
      by_cases hlt : k < t.args.length
      · have hne : t.args ≠ [] := by intro e; rw [e] at hlt; simp at hlt
        obtain ⟨d', b', off', rfl, rfl, _, _, hat⟩ := HR.out.at hne
        obtain ⟨g0, g1, g2, gf, c, g3, gc⟩ := (hat k hlt).below HI.out.below
        clear hat hne
        obtain ⟨ac, capc, rfl⟩ := gc.shape
        have HGC := Lib.hid gc; clear gc
        have HGF := Lib.hid gf; clear gf
        have hbr := cell_lt g0
        have hszr := HI.out.size
        obtain ⟨sv, hsv, hgrow⟩ := HI.out.out
        obtain ⟨asv, capsv, rfl, hown⟩ := hgrow.shape
        have o3 : wr.cell? ⟨w.heap.size + 1 + 1, 3, none⟩ = some (.slice asv (t.args.take k).length capsv) := by simp [World.cell?, hsv]
        have fr3 := thaw hsv 3
        have hN2 : w.heap.size + 1 + 1 < wr.heap.size := by omega
        have HSV := Lib.hid hsv; clear hsv
        have HGR := Lib.hid hgrow; clear hgrow
        have HOWN := Lib.hid hown; clear hown
        generalize hLk : (t.args.take k).length = Lk at *
        have HLK := Lib.hid hLk; clear hLk
        generalize hex : t.args[k] = x at *
        have HEX := Lib.hid hex; clear hex
        go_wp2_with fail
        generalize hw0 : wr.alloc (.cells #[.int .i64 x.op, .string x.name, .int .i64 x.n, .slice ac x.args.length capc] 36) = w0
        have hs0 : w0.heap.size = wr.heap.size + 1 := by rw [← hw0]; simp
        have hB0 : Below wr.heap.size wr w0 := by rw [← hw0]; exact (Below.refl _ _).alloc (Nat.le_refl _) _
        have ex : w0.heap[wr.heap.size]? = some (.cells #[.int .i64 x.op, .string x.name, .int .i64 x.n, .slice ac x.args.length capc] 36) := by rw [← hw0]; exact alloc_last _ _
        clear hw0
        have x0 : w0.cell? ⟨wr.heap.size, 0, none⟩ = some (.int .i64 x.op) := by simp [World.cell?, ex]
        have x1 : w0.cell? ⟨wr.heap.size, 1, none⟩ = some (.string x.name) := by simp [World.cell?, ex]
        have x2 : w0.cell? ⟨wr.heap.size, 2, none⟩ = some (.int .i64 x.n) := by simp [World.cell?, ex]
        have x3 : w0.cell? ⟨wr.heap.size, 3, none⟩ = some (.slice ac x.args.length capc) := by simp [World.cell?, ex]
        have p3 : w0.cell? ⟨w.heap.size + 1 + 1, 3, none⟩ = some (.slice asv Lk capsv) := below_cell hB0 o3
        have q3 : w0.frozen? ⟨w.heap.size + 1 + 1, 3, none⟩ = false := below_thaw hB0 o3 fr3
        have HGC0 := Lib.hid (show RepS .i64 S w0.drew d' x.args (.slice ac x.args.length capc) from (HGC.out.below hB0).drewN 1)
        have HB0 := Lib.hid hB0
        have HS0 := Lib.hid hs0
        clear g0 g1 g2 g3 o3 fr3 hB0 ex hs0 hbr
        obtain ⟨i0, hi0, hz0, hz1, hz2⟩ := info_parts Try.info41
        have HON := Lib.hid (show (Value.slice asv Lk capsv).ownBlock ≠ some (w.heap.size + 1 + 1) from fun e => by have := (HOWN.out _ e).1; omega)
        have HM := Lib.hid (show Lk + 1 ≤ maxLen ∧ (Lk + 1) * 56 ≤ 140737488355328 by
          have : Lk ≤ k := by rw [← HLK.out]; exact List.length_take_le _ _
          unfold maxLen; omega)
        have HBS := Lib.hid (fun (w1 : World) (h : w0.drew.heap.size ≤ w1.heap.size) (o : Obj) => show w.heap.size + 1 + 1 + 1 ≤ (w1.alloc o).heap.size by
          have h' : w0.heap.size ≤ w1.heap.size := h
          have := HS0.out
          rw [World.size_alloc]; omega)
        go_region_law (first | (refine step_append_lies _ (by rfl) _ _ _ (by rfl) (w.heap.size + 1 + 1 + 1) 41 i0 _ 4 56 Try.underlying39 hi0 hz0 hz1 hz2 rfl (by omega) (.slice asv Lk capsv) Lk xs (by rfl) hox ⟨w1.heap.size, 0, none⟩ 1 1 [.int .u8 x.op, .string x.name, .int .i64 x.n, .slice a1 x.args.length cap1] (by rfl) (by rfl) (World.news_of_block (cs := #[.int .u8 x.op, .string x.name, .int .i64 x.n, .slice a1 x.args.length cap1]) (t := 41) (fr := (0, 0)) (heap_alloc_new w1 _)) (by simp [Value.oneCell']) (by omega) hm1 hm2 hbs (w1.heap.size + 1) (by simp) ?_; intro gg cap2 w2 hown2 hgrow2 hat2 hlt2; have p5 := grown_cell hgrow2 (alloc_cell _ p4) HON.out; have q5 := grown_thaw hgrow2 (alloc_cell _ p4) (alloc_thaw _ p4 q4) HON.out) | (go_simp; go_at_call 27; refine (IH.out d' (by omega) S x (.slice ac x.args.length capc) w0.drew HGF.out HGC0.out).mono ?_; rintro e w1 ⟨hb1, c1, rfl, hr1⟩; obtain ⟨a1, cap1, rfl⟩ := hr1.shape; unfold agg; obtain ⟨xs, hox, hpush⟩ := (HGR.out.keep (w' := w1.alloc (.cells #[.int .u8 x.op, .string x.name, .int .i64 x.n, .slice a1 x.args.length cap1] 41)) (fun y _ hy => keep_chain HB0.out hb1 _ hy)).open; rw [HLK.out] at hox; have hm1 : Lk + 1 ≤ maxLen := HM.out.1; have hm2 : (Lk + 1) * 56 ≤ 140737488355328 := HM.out.2; have hbs : w.heap.size + 1 + 1 + 1 ≤ (w1.alloc (.cells #[.int .u8 x.op, .string x.name, .int .i64 x.n, .slice a1 x.args.length cap1] 41)).heap.size := HBS.out w1 hb1.size _; have HPU := Lib.hid hpush; have HR1 := Lib.hid hr1; clear hpush hr1; have p4 := below_cell hb1 (show w0.drew.cell? ⟨w.heap.size + 1 + 1, 3, none⟩ = _ from p3); have q4 := below_thaw hb1 (show w0.drew.cell? ⟨w.heap.size + 1 + 1, 3, none⟩ = _ from p3) q3; have hN4 := cell_lt p4; have HB1 := Lib.hid hb1; clear hb1))
        all_goals
          have HN := Lib.hid (HI.out.step (sv' := .slice (some ⟨gg, 0, none⟩) (Lk + 1) cap2) hlt HEX.out HSV.out HB0.out HB1.out hgrow2 (by
            have h := HPU.out w2 gg cap2 (w1.heap.size + 1) x (.slice a1 x.args.length cap1) (by rw [HLK.out]; exact hown2) hgrow2 hat2 (by simp) ⟨HGF.out.op, HGF.out.n, HGF.out.name, HGF.out.len⟩ (HR1.out.mono2 (fun y o v hy hv => ⟨⟨by have h1 : w0.heap.size ≤ y := hy; have := HS0.out; omega, fun e => by have h1 : w0.heap.size ≤ y := hy; have := (HOWN.out _ e).2; have := HS0.out; omega⟩, alloc_cell _ hv⟩) (Nat.le_refl _))
            rwa [HLK.out] at h) (fun y e => (HOWN.out y e).1))
          clear hown2 hgrow2 hat2 hlt2
          go_wp2_with fail
          go_roundw
          case rel => exact ⟨k + 1, by omega, by go_num, HN.out⟩
          case measure => simp [intOf]; omega
      · have hkk : k = t.args.length := by omega
        subst hkk
        obtain ⟨sv, hsv, hgrow⟩ := HI.out.out
        rw [List.take_length] at hgrow
        obtain ⟨asv, capsv, rfl, hown⟩ := hgrow.shape
        have HD := Lib.hid (show RepS .u8 (fun x => w.heap.size + 1 + 1 + 1 ≤ x) wr d t.args (.slice asv t.args.length capsv) by
          by_cases hne : t.args = []
          · rw [hne]; exact RepS.nil _ _ _
          · obtain ⟨d', b', off', rfl, _⟩ := HR.out.at hne
            exact hgrow.rep)
        have o0 : wr.cell? ⟨w.heap.size + 1 + 1, 0, none⟩ = some (.int .u8 t.op) := by simp [World.cell?, hsv]
        have o1 : wr.cell? ⟨w.heap.size + 1 + 1, 1, none⟩ = some (.string t.name) := by simp [World.cell?, hsv]
        have o2 : wr.cell? ⟨w.heap.size + 1 + 1, 2, none⟩ = some (.int .i64 t.n) := by simp [World.cell?, hsv]
        have o3 : wr.cell? ⟨w.heap.size + 1 + 1, 3, none⟩ = some (.slice asv t.args.length capsv) := by simp [World.cell?, hsv]
        have z0 : wr.cell? ⟨w.heap.size + 1, 0, none⟩ = some (.int .u8 0) := by simp [World.cell?, HI.out.res]
        have z1 : wr.cell? ⟨w.heap.size + 1, 1, none⟩ = some (.string ⟨#[]⟩) := by simp [World.cell?, HI.out.res]
        have z2 : wr.cell? ⟨w.heap.size + 1, 2, none⟩ = some (.int .i64 0) := by simp [World.cell?, HI.out.res]
        have z3 : wr.cell? ⟨w.heap.size + 1, 3, none⟩ = some (.slice none 0 0) := by simp [World.cell?, HI.out.res]
        have f0 := thaw HI.out.res 0
        have f1 := thaw HI.out.res 1
        have f2 := thaw HI.out.res 2
        have f3 := thaw HI.out.res 3
        clear hsv hgrow hown
        go_wp2_with fail
        refine bodyPost_ret (v := .agg #[.int .u8 t.op, .string t.name, .int .i64 t.n, .slice asv t.args.length capsv]) (by simp [results, Try.results27, go_sem, z0, z1, z2, z3]) rfl ⟨set4_below (M := w.heap.size + 1) HI.out.below (Nat.le_succ _) 0 _ _ _ _, _, rfl, ?_⟩
        exact HD.out.mono (fun x hx => by omega) (fun x o v hx hv => (set4_far wr (w.heap.size + 1) 0 _ _ _ _ x o (by omega)).trans hv) (Nat.le_refl _)
end Go.Proofs.Ytekhoanjpnjaeaa
