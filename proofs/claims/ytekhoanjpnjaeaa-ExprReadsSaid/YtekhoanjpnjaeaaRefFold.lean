/- The contracts of ref10.fold and ref10.Fold. -/
import Derived.Test.YtekhoanjpnjaeaaFoldLaw
import Derived.Deep.DeepMust
namespace Go.Proofs.Ytekhoanjpnjaeaa
open Go.RowKit

theorem Try.info36 : (Try.prog.info? 36).map (fun i => (i.zero, i.size, i.bytes)) = some (some (.agg #[.int .i64 0, .string ByteArray.empty, .int .i64 0, .slice none 0 0]), 4, 56) := by kernel_rfl

structure RFoldInv (w : World) (t : Ex) (c : Value) (d k : Nat) (wr : World) : Prop where
  below : Below w.heap.size w wr
  size : w.heap.size + 1 + 1 + 1 ≤ wr.heap.size
  bx : wr.heap[w.heap.size]? = some (.cells #[.int .i64 t.op, .string t.name, .int .i64 t.n, c] 36)
  res : wr.heap[w.heap.size + 1]? = some (.cells #[.int .i64 0, .string ⟨#[]⟩, .int .i64 0, .slice none 0 0] 36)
  out : ∃ sv, wr.heap[w.heap.size + 1 + 1]? = some (.cells #[.int .i64 t.op, .string t.name, .int .i64 t.n, sv] 36) ∧ Grow .i64 36 (w.heap.size + 1 + 1 + 1) wr d sv ((t.args.take k).map foldT)

theorem RFoldInv.start (w : World) (t : Ex) (c : Value) (d : Nat) : RFoldInv w t c d 0 (((w.alloc (.cells #[.int .i64 t.op, .string t.name, .int .i64 t.n, c] 36)).alloc (.cells #[.int .i64 0, .string ⟨#[]⟩, .int .i64 0, .slice none 0 0] 36)).alloc (.cells #[.int .i64 t.op, .string t.name, .int .i64 t.n, .slice none 0 0] 36)) := by
  refine ⟨(((Below.refl _ _).alloc (Nat.le_refl _) _).alloc (by simp) _).alloc (by simp; omega) _, by simp, ?_, ?_, ⟨_, ?_, Grow.nil _ _ _ _ _⟩⟩
  · rw [Below.heap_alloc _ _ _ (by simp; omega), Below.heap_alloc _ _ _ (by simp)]; exact alloc_last _ _
  · rw [Below.heap_alloc _ _ _ (by simp)]; exact alloc_at _ _ (by simp)
  · exact alloc_at _ _ (by simp)

/-- A step that only makes blocks. -/
theorem RFoldInv.more {w wr w' : World} {t : Ex} {c : Value} {d k : Nat} (h : RFoldInv w t c d k wr) (hb : Below wr.heap.size wr w') : RFoldInv w t c d k w' := by
  have hs := h.size
  obtain ⟨sv, h1, h2⟩ := h.out
  exact ⟨h.below.trans (hb.mono h.below.size), Nat.le_trans hs hb.size, (hb.block _ (by omega)).trans h.bx, (hb.block _ (by omega)).trans h.res, sv, (hb.block _ (by omega)).trans h1, h2.keep (fun x _ hx => hb.block x hx)⟩

theorem grown_block {w w' : World} {row : Option Nat} (h : w.grownBy w' row) {b : Nat} {ob : Obj} (hc : w.heap[b]? = some ob) (hr : row ≠ some b) : w'.heap[b]? = some ob := by
  have hlt : b < w.heap.size := by
    rcases Nat.lt_or_ge b w.heap.size with h | h
    · exact h
    · rw [Array.getElem?_eq_none h] at hc; cases hc
  rw [h.block b hlt (fun e => hr e.symm)]; exact hc
theorem RFoldInv.step {w wr w2 : World} {t x : Ex} {c : Value} {d k : Nat} {sv sv' : Value} {o : Obj} (hI : RFoldInv w t c d k wr) (hk : k < t.args.length) (hx : foldT t.args[k] = x)
    (hsv : wr.heap[w.heap.size + 1 + 1]? = some (.cells #[.int .i64 t.op, .string t.name, .int .i64 t.n, sv] 36))
    (hg : (wr.alloc o).grownBy w2 sv.ownBlock) (hgrow : Grow .i64 36 (w.heap.size + 1 + 1 + 1) w2 d sv' ((t.args.take k).map foldT ++ [x])) (hon : ∀ y, sv.ownBlock = some y → w.heap.size + 1 + 1 + 1 ≤ y) :
    RFoldInv w t c d (k + 1) (w2.setCell ⟨w.heap.size + 1 + 1, 3, none⟩ sv') := by
  have hs := hI.size
  have e2 : ∀ y, y < wr.heap.size → y < w.heap.size + 1 + 1 + 1 → w2.heap[y]? = wr.heap[y]? := by
    intro y hy hy'
    rw [hg.block y (by rw [World.size_alloc]; omega) (fun e => by have := hon y e.symm; omega)]
    exact Below.heap_alloc _ _ _ hy
  have hs2 : wr.heap.size ≤ w2.heap.size := by have := hg.size; rw [World.size_alloc] at this; omega
  have hss : (w2.setCell ⟨w.heap.size + 1 + 1, 3, none⟩ sv').heap.size = w2.heap.size := by simp [World.setCell]
  refine ⟨⟨hg.os.trans hI.below.os, hg.tape.trans hI.below.tape, hg.output.trans hI.below.output, by rw [hss]; have := hI.below.size; omega, fun y hy => ?_⟩, by rw [hss]; omega, ?_, ?_, ⟨sv', ?_, ?_⟩⟩
  · rw [Below.heap_setCell _ _ _ _ (show y ≠ w.heap.size + 1 + 1 by omega), e2 y (by omega) (by omega)]; exact hI.below.block y hy
  · rw [Below.heap_setCell _ _ _ _ (show w.heap.size ≠ w.heap.size + 1 + 1 by omega), e2 _ (by omega) (by omega)]; exact hI.bx
  · rw [Below.heap_setCell _ _ _ _ (show w.heap.size + 1 ≠ w.heap.size + 1 + 1 by omega), e2 _ (by omega) (by omega)]; exact hI.res
  · rw [heap_setCell_same _ _ _ _ _ _ ((e2 _ (by omega) (by omega)).trans hsv)]; rfl
  · rw [List.take_succ_eq_append_getElem hk, List.map_append, List.map_cons, List.map_nil, hx]
    exact hgrow.keep (fun y hy _ => Below.heap_setCell _ _ _ _ (show y ≠ w.heap.size + 1 + 1 by omega))

def RFoldSaid (d : Nat) : Prop := ∀ (S : Nat → Prop) (t : Ex) (c : Value) (w : World), Flds .i64 t → RepS .i64 S w d t.args c → t.formed = true →
    Calls Try.prog 73 #[agg .i64 t c] w fun e w' => Below w.heap.size w w' ∧ ∃ c', e = .returned (agg .i64 (foldT t) c') ∧ Flds .i64 (foldT t) ∧ RepS .i64 (fun x => w.heap.size ≤ x) w' (d + 1) (foldT t).args c'

set_option maxRecDepth 100000 in
set_option maxHeartbeats 2000000 in
theorem rfold_any (d : Nat) : RFoldSaid d := by
  induction d using Nat.strongRecOn with
  | _ d ih =>
    intro S t c w hf hr hfm
    have IH := Lib.hid ih; clear ih
    obtain ⟨a, cap, rfl⟩ := hr.shape
    have HF := Lib.hid hf
    have HR := Lib.hid hr; clear hr
    have HFM := Lib.hid hfm; clear hfm
    have hlen := hf.len
    clear hf
    obtain ⟨i0, hi0, hz0, hz1, hz2⟩ := info_parts Try.info36
    unfold agg
    go_enter Try.func73, Try.ntmps73
    go_wp2_with fail
    go_loopw [4, 19] (fun al i wr => ∃ k : Nat, k ≤ t.args.length ∧ i = .int .i64 k ∧ al = .bool (allC ((t.args.take k).map foldT)) ∧ RFoldInv w t (.slice a t.args.length cap) d k wr) (fun _ i _ => t.args.length - (intOf i).toNat)
    case atStart => exact ⟨0, Nat.zero_le _, rfl, by simp [allC], RFoldInv.start _ _ _ _⟩
    case round =>
      obtain ⟨k, hk, rfl, rfl, hinv⟩ := hrel
      have HI := Lib.hid hinv; clear hinv
      generalize hA : allC ((t.args.take k).map foldT) = A
      have HA := Lib.hid hA; clear hA
      by_cases hlt : k < t.args.length
      · have hne : t.args ≠ [] := by intro e; rw [e] at hlt; simp at hlt
        obtain ⟨d', b', off', rfl, rfl, _, _, hat⟩ := HR.out.at hne
        obtain ⟨g0, g1, g2, gf, c, g3, gc⟩ := (hat k hlt).below HI.out.below
        clear hat hne
        obtain ⟨ac, capc, rfl⟩ := gc.shape
        have HGC := Lib.hid gc; clear gc
        have HGF := Lib.hid gf; clear gf
        have hbr := cell_lt g0
        have hszr := HI.out.size
        have HFX := Lib.hid ((formed_args HFM.out).2 _ (List.getElem_mem hlt))
        have HTk := Lib.hid (allC_take t.args k hlt)
        generalize hex : t.args[k] = x at *
        have HEX := Lib.hid hex; clear hex
        have HN9 := Lib.hid (foldT_nine HFX.out)
        have HC1 := Lib.hid (rconst_eq (formed_op (foldT_formed x HFX.out)).1)
        go_wp2_with fail
        generalize hw0 : wr.alloc (.cells #[.int .i64 x.op, .string x.name, .int .i64 x.n, .slice ac x.args.length capc] 36) = w0
        have hB0 : Below wr.heap.size wr w0 := by rw [← hw0]; exact (Below.refl _ _).alloc (Nat.le_refl _) _
        clear hw0
        have HB0 := Lib.hid hB0; clear hB0
        refine (IH.out d' (by omega) S x (.slice ac x.args.length capc) w0 HGF.out (HGC.out.below HB0.out) HFX.out).mono ?_
        rintro r w1 ⟨hb1, c1, rfl, hf1, hr1⟩
        obtain ⟨a1, cap1, rfl⟩ := hr1.shape
        unfold agg
        generalize hfx : foldT x = y at *
        have HFX2 := Lib.hid hfx; clear hfx
        have HY := Lib.hid (And.intro hf1 hr1); clear hf1 hr1
        have HI1 := Lib.hid ((HI.out.more HB0.out).more hb1)
        have HB01 := Lib.hid (HB0.out.trans (hb1.mono HB0.out.size))
        have hsz1 := hb1.size
        have hsz0 := HB0.out.size
        clear hb1 g0 g1 g2 g3 hbr
        obtain ⟨sv, hsv, hgrow⟩ := HI.out.out
        obtain ⟨asv, capsv, rfl, hown⟩ := hgrow.shape
        have hsv1 : w1.heap[w.heap.size + 1 + 1]? = some (.cells #[.int .i64 t.op, .string t.name, .int .i64 t.n, .slice asv ((t.args.take k).map foldT).length capsv] 36) := by rw [HB01.out.block _ (by omega)]; exact hsv
        have HSV := Lib.hid hsv1
        have HGR := Lib.hid hgrow
        have HOWN := Lib.hid hown
        have o3 : w1.cell? ⟨w.heap.size + 1 + 1, 3, none⟩ = some (.slice asv ((t.args.take k).map foldT).length capsv) := by simp [World.cell?, hsv1]
        have fr3 := thaw hsv1 3
        have hN2 := cell_lt o3
        clear hsv hsv1 hgrow hown
        generalize hLk : ((t.args.take k).map foldT).length = Lk at *
        have hLkk : Lk ≤ k := by rw [← hLk]; simp; omega
        have HLK := Lib.hid hLk; clear hLk
        have HW2 := Lib.hid (HI1.out.more ((Below.refl _ w1).alloc (Nat.le_refl _) (.cells #[.int .i64 y.op, .string y.name, .int .i64 y.n, .slice a1 y.args.length cap1] 36)))
        obtain ⟨xs, hox, hpush⟩ := (HGR.out.keep (w' := (w1.alloc (.cells #[.int .i64 y.op, .string y.name, .int .i64 y.n, .slice a1 y.args.length cap1] 36)).alloc (.cells #[.int .i64 y.op, .string y.name, .int .i64 y.n, .slice a1 y.args.length cap1] 36)) (fun z _ hz => by rw [Below.heap_alloc _ _ _ (by rw [World.size_alloc]; omega), Below.heap_alloc _ _ _ (by omega)]; exact HB01.out.block z hz)).open
        rw [HLK.out] at hox
        have HOX := Lib.hid hox
        have HPU := Lib.hid hpush
        clear hox hpush
        have hm1 : Lk + 1 ≤ maxLen := by unfold maxLen; omega
        have hm2 : (Lk + 1) * 56 ≤ 140737488355328 := by omega
        have hbs : w.heap.size + 1 + 1 + 1 ≤ ((w1.alloc (.cells #[.int .i64 y.op, .string y.name, .int .i64 y.n, .slice a1 y.args.length cap1] 36)).alloc (.cells #[.int .i64 y.op, .string y.name, .int .i64 y.n, .slice a1 y.args.length cap1] 36)).heap.size := by simp; omega
        have hne1 : w.heap.size + 1 + 1 ≠ w1.heap.size := by omega
        have HON := Lib.hid (show (Value.slice asv Lk capsv).ownBlock ≠ some (w.heap.size + 1 + 1) from fun e => by have := (HOWN.out _ e).1; omega)
        have HON' := Lib.hid (show (Value.slice asv Lk capsv).ownBlock ≠ some w1.heap.size from fun e => by have := (HOWN.out _ e).2; omega)
        have HYB := Lib.hid (show ((w1.alloc (.cells #[.int .i64 y.op, .string y.name, .int .i64 y.n, .slice a1 y.args.length cap1] 36)).alloc (.cells #[.int .i64 y.op, .string y.name, .int .i64 y.n, .slice a1 y.args.length cap1] 36)).heap[w1.heap.size]? = some (.cells #[.int .i64 y.op, .string y.name, .int .i64 y.n, .slice a1 y.args.length cap1] 36) by
          rw [Below.heap_alloc _ _ _ (by simp)]; exact alloc_last _ _)
        have HNS := Lib.hid (fun (w2 : World) (gg cap2 : Nat) (h1 : w2.ownsRow (w.heap.size + 1 + 1 + 1) 36 4 (.slice (some ⟨gg, 0, none⟩) (Lk + 1) cap2) (Lk + 1) (xs ++ [.int .i64 y.op, .string y.name, .int .i64 y.n, .slice a1 y.args.length cap1]))
            (h2 : ((w1.alloc (.cells #[.int .i64 y.op, .string y.name, .int .i64 y.n, .slice a1 y.args.length cap1] 36)).alloc (.cells #[.int .i64 y.op, .string y.name, .int .i64 y.n, .slice a1 y.args.length cap1] 36)).grownBy w2 (Value.slice asv Lk capsv).ownBlock)
            (h3 : (Value.slice asv Lk capsv).ownBlock = some gg ∨ gg = ((w1.alloc (.cells #[.int .i64 y.op, .string y.name, .int .i64 y.n, .slice a1 y.args.length cap1] 36)).alloc (.cells #[.int .i64 y.op, .string y.name, .int .i64 y.n, .slice a1 y.args.length cap1] 36)).heap.size) =>
          show RFoldInv w t (.slice (some ⟨b', off', none⟩) t.args.length cap) (d' + 1) (k + 1) (w2.setCell ⟨w.heap.size + 1 + 1, 3, none⟩ (.slice (some ⟨gg, 0, none⟩) (Lk + 1) cap2)) by
            refine HW2.out.step (x := y) hlt (by rw [HEX.out]; exact HFX2.out) ((Below.heap_alloc _ _ _ hN2).trans HSV.out) h2 ?_ (fun z hz => (HOWN.out z hz).1)
            have hh := HPU.out w2 gg cap2 _ y (.slice a1 y.args.length cap1) (by rw [HLK.out]; exact h1) h2 h3 (Nat.le_refl _) HY.out.1 (HY.out.2.mono2 (fun z o v hz hv => ⟨⟨by have h9 : w0.heap.size ≤ z := hz; omega, fun e => by have h9 : w0.heap.size ≤ z := hz; have := (HOWN.out _ e).2; omega⟩, alloc_cell _ (alloc_cell _ hv)⟩) (Nat.le_refl _))
            rwa [HLK.out] at hh)
        cases A with
        | false =>
          go_wp2_with (at_builtin; refine wpList_append_lies _ rfl _ _ _ rfl (w.heap.size + 1 + 1 + 1) 36 i0 _ 4 56 Try.underlying34 hi0 hz0 hz1 hz2 rfl (by omega) (.slice asv Lk capsv) Lk xs rfl HOX.out ⟨w1.heap.size + 1, 0, none⟩ 1 1 [.int .i64 y.op, .string y.name, .int .i64 y.n, .slice a1 y.args.length cap1] rfl rfl (World.news_of_block (cs := #[.int .i64 y.op, .string y.name, .int .i64 y.n, .slice a1 y.args.length cap1]) (t := 36) (fr := (0, 0)) (alloc_at _ _ (by simp))) (by simp [Value.oneCell']) (by omega) hm1 hm2 hbs _ rfl ?_; intro gg cap2 w2 hown2 hgrow2 hat2 hlt2; have p5 := grown_cell hgrow2 (alloc_cell _ (alloc_cell _ o3)) HON.out; have q5 := grown_thaw hgrow2 (alloc_cell _ (alloc_cell _ o3)) (alloc_thaw _ (alloc_cell _ o3) (alloc_thaw _ o3 fr3)) HON.out; have yb := grown_block hgrow2 HYB.out HON'.out; have y0 : w2.cell? ⟨w1.heap.size, 0, none⟩ = some (.int .i64 y.op) := (by simp [World.cell?, yb]); have y1 : w2.cell? ⟨w1.heap.size, 1, none⟩ = some (.string y.name) := (by simp [World.cell?, yb]); have y2 : w2.cell? ⟨w1.heap.size, 2, none⟩ = some (.int .i64 y.n) := (by simp [World.cell?, yb]); have y3 : w2.cell? ⟨w1.heap.size, 3, none⟩ = some (.slice a1 y.args.length cap1) := (by simp [World.cell?, yb]); have HNX := Lib.hid (And.intro hown2 (And.intro hgrow2 hat2)); clear hown2 hgrow2 hat2 yb)
          have HNI := Lib.hid (HNS.out w2 gg cap2 HNX.out.1 HNX.out.2.1 HNX.out.2.2)
          clear p5 q5 y0 y1 y2 y3
          go_roundw
          case rel => exact ⟨k + 1, by omega, by go_num, by rw [HTk.out, HA.out]; rfl, HNI.out⟩
          case measure => simp [intOf]; omega
        | true =>
          go_wp2_with (at_builtin; refine wpList_append_lies _ rfl _ _ _ rfl (w.heap.size + 1 + 1 + 1) 36 i0 _ 4 56 Try.underlying34 hi0 hz0 hz1 hz2 rfl (by omega) (.slice asv Lk capsv) Lk xs rfl HOX.out ⟨w1.heap.size + 1, 0, none⟩ 1 1 [.int .i64 y.op, .string y.name, .int .i64 y.n, .slice a1 y.args.length cap1] rfl rfl (World.news_of_block (cs := #[.int .i64 y.op, .string y.name, .int .i64 y.n, .slice a1 y.args.length cap1]) (t := 36) (fr := (0, 0)) (alloc_at _ _ (by simp))) (by simp [Value.oneCell']) (by omega) hm1 hm2 hbs _ rfl ?_; intro gg cap2 w2 hown2 hgrow2 hat2 hlt2; have p5 := grown_cell hgrow2 (alloc_cell _ (alloc_cell _ o3)) HON.out; have q5 := grown_thaw hgrow2 (alloc_cell _ (alloc_cell _ o3)) (alloc_thaw _ (alloc_cell _ o3) (alloc_thaw _ o3 fr3)) HON.out; have yb := grown_block hgrow2 HYB.out HON'.out; have y0 : w2.cell? ⟨w1.heap.size, 0, none⟩ = some (.int .i64 y.op) := (by simp [World.cell?, yb]); have y1 : w2.cell? ⟨w1.heap.size, 1, none⟩ = some (.string y.name) := (by simp [World.cell?, yb]); have y2 : w2.cell? ⟨w1.heap.size, 2, none⟩ = some (.int .i64 y.n) := (by simp [World.cell?, yb]); have y3 : w2.cell? ⟨w1.heap.size, 3, none⟩ = some (.slice a1 y.args.length cap1) := (by simp [World.cell?, yb]); have HNX := Lib.hid (And.intro hown2 (And.intro hgrow2 hat2)); clear hown2 hgrow2 hat2 yb)
          have HNI := Lib.hid (HNS.out w2 gg cap2 HNX.out.1 HNX.out.2.1 HNX.out.2.2)
          clear p5 q5 y0 y1 y2 y3
          refine (rconst_any (d' + 1) (fun _ => True) y (.slice a1 y.args.length cap1) _ HY.out.1 ?_ HN9.out).mono ?_
          · refine HY.out.2.mono (fun _ _ => trivial) (fun z o v hz hv => ?_) (Nat.le_refl _)
            have h9 : w0.heap.size ≤ z := hz
            have hz1 := cell_lt hv
            rw [cell_set_far (show z ≠ w.heap.size + 1 + 1 by omega)]
            exact grown_cell HNX.out.2.1 (alloc_cell _ (alloc_cell _ hv)) (fun e => by have := (HOWN.out _ e).2; omega)
          rw [HC1.out]
          rintro r w3 ⟨rfl, hb3⟩
          have HNI3 := Lib.hid (HNI.out.more hb3)
          clear hb3
          go_wp2_with fail
          go_roundw
          case rel => exact ⟨k + 1, by omega, by go_num, by rw [HTk.out, HA.out]; rfl, HNI3.out⟩
          case measure => simp [intOf]; omega
      · have hkk : k = t.args.length := by omega
        subst hkk
        have HA' := Lib.hid (show allC (t.args.map foldT) = A by have := HA.out; rwa [List.take_length] at this)
        obtain ⟨sv, hsv, hgrow⟩ := HI.out.out
        rw [List.take_length] at hgrow
        obtain ⟨asv, capsv, hsvv, hown⟩ := hgrow.shape
        rw [List.length_map] at hsvv
        subst hsvv
        have hszr := HI.out.size
        have HRP := Lib.hid hgrow.rep
        have o0 : wr.cell? ⟨w.heap.size + 1 + 1, 0, none⟩ = some (.int .i64 t.op) := by simp [World.cell?, hsv]
        have o1 : wr.cell? ⟨w.heap.size + 1 + 1, 1, none⟩ = some (.string t.name) := by simp [World.cell?, hsv]
        have o2 : wr.cell? ⟨w.heap.size + 1 + 1, 2, none⟩ = some (.int .i64 t.n) := by simp [World.cell?, hsv]
        have o3 : wr.cell? ⟨w.heap.size + 1 + 1, 3, none⟩ = some (.slice asv t.args.length capsv) := by simp [World.cell?, hsv]
        have x0 : wr.cell? ⟨w.heap.size, 0, none⟩ = some (.int .i64 t.op) := by simp [World.cell?, HI.out.bx]
        have z0 : wr.cell? ⟨w.heap.size + 1, 0, none⟩ = some (.int .i64 0) := by simp [World.cell?, HI.out.res]
        have z1 : wr.cell? ⟨w.heap.size + 1, 1, none⟩ = some (.string ⟨#[]⟩) := by simp [World.cell?, HI.out.res]
        have z2 : wr.cell? ⟨w.heap.size + 1, 2, none⟩ = some (.int .i64 0) := by simp [World.cell?, HI.out.res]
        have z3 : wr.cell? ⟨w.heap.size + 1, 3, none⟩ = some (.slice none 0 0) := by simp [World.cell?, HI.out.res]
        have f0 := thaw HI.out.res 0
        have f1 := thaw HI.out.res 1
        have f2 := thaw HI.out.res 2
        have f3 := thaw HI.out.res 3
        have HFO := Lib.hid (show Flds .i64 (.node t.op t.name t.n (t.args.map foldT)) from ⟨HF.out.op, HF.out.n, HF.out.name, by show (t.args.map foldT).length < _; rw [List.length_map]; exact HF.out.len⟩)
        have HEND := Lib.hid (fun (wx : World) (hx : Below wr.heap.size wr wx) (hT : foldT t = .node t.op t.name t.n (t.args.map foldT)) =>
          show Below w.heap.size w (set4 wx (w.heap.size + 1) 0 (.int .i64 t.op) (.string t.name) (.int .i64 t.n) (.slice asv t.args.length capsv)) ∧ ∃ c', Ending.returned (.agg #[.int .i64 t.op, .string t.name, .int .i64 t.n, .slice asv t.args.length capsv]) = .returned (agg .i64 (foldT t) c') ∧ Flds .i64 (foldT t) ∧
            RepS .i64 (fun x => w.heap.size ≤ x) (set4 wx (w.heap.size + 1) 0 (.int .i64 t.op) (.string t.name) (.int .i64 t.n) (.slice asv t.args.length capsv)) (d + 1) (foldT t).args c' by
            rw [hT]
            refine ⟨set4_below (HI.out.below.trans (hx.mono HI.out.below.size)) (Nat.le_succ _) 0 _ _ _ _, _, rfl, HFO.out, ?_⟩
            refine (HRP.out.below hx).mono (fun x hx => by omega) (fun x o v hx hv => (set4_far wx (w.heap.size + 1) 0 _ _ _ _ x o (by omega)).trans hv) (Nat.le_refl _))
        clear hsv hgrow hown
        by_cases h9 : t.op < 9
        · have h9d : decide (t.op < 9) = true := by simpa using h9
          have HT := Lib.hid (show foldT t = .node t.op t.name t.n (t.args.map foldT) by rw [foldT_eq, foldN, show decide (9 ≤ t.op) = false by simp; omega]; rfl)
          skip
          go_wp2_with fail
          refine bodyPost_ret (v := .agg #[.int .i64 t.op, .string t.name, .int .i64 t.n, .slice asv t.args.length capsv]) (by simp [results, Try.results73, go_sem, z0, z1, z2, z3]) rfl ?_
          exact HEND.out _ (Below.refl _ _) HT.out
        · have h9d : decide (t.op < 9) = false := by simpa using h9
          have h9e : decide (9 ≤ t.op) = true := by simp; omega
          cases A with
          | false =>
            have HT := Lib.hid (show foldT t = .node t.op t.name t.n (t.args.map foldT) by rw [foldT_eq, foldN, h9e, HA'.out]; rfl)
            clear h9e
            skip
            go_wp2_with fail
            refine bodyPost_ret (v := .agg #[.int .i64 t.op, .string t.name, .int .i64 t.n, .slice asv t.args.length capsv]) (by simp [results, Try.results73, go_sem, z0, z1, z2, z3]) rfl ?_
            exact HEND.out _ (Below.refl _ _) HT.out
          | true =>
            have HFF := Lib.hid (show (Ex.node t.op t.name t.n (t.args.map foldT)).formed = true from formed_mk (by rw [List.length_map]; exact (formed_args HFM.out).1) (fun a ha => by
              obtain ⟨y, hy, rfl⟩ := List.mem_map.1 ha
              exact foldT_formed y ((formed_args HFM.out).2 y hy)))
            have HVF := Lib.hid (val_fold t.op t.name t.n (t.args.map foldT) (by omega) HFF.out HA'.out)
            have HT := Lib.hid (show foldT t = if foldV t.op (valsC (t.args.map foldT)) = -9223372036854775808 then .node t.op t.name t.n (t.args.map foldT) else litT t.op (foldV t.op (valsC (t.args.map foldT))) by rw [foldT_eq, foldN, h9e, HA'.out]; rfl)
            have HOPB := Lib.hid (formed_op HFM.out).2
            have H01 := Lib.hid (fun h => foldV_01 t.op (valsC (t.args.map foldT)) h HOPB.out (by simp [valsC]; exact (formed_args HFM.out).1))
            have HE0 := Lib.hid (show EnvRep (fun _ => True) wr env0 (.slice none 0 0) (.slice none 0 0) (.slice none 0 0) (.slice none 0 0) from ⟨Row.nil _ _ _ _ _, Row.nil _ _ _ _ _, Row.nil _ _ _ _ _, ⟨[], Row.nil _ _ _ _ _, fun i h => absurd h (Nat.not_lt_zero _)⟩, ⟨by decide, by decide, by decide, by decide, fun t ht => by cases ht⟩, ⟨by decide, by decide⟩, fun v hv => (by cases hv), fun t ht => by cases ht⟩)
            clear h9e
            generalize hvv : foldV t.op (valsC (t.args.map foldT)) = v at *
            clear hvv
            go_wp2_with fail
            refine (value_any (d + 1) (fun x => w.heap.size + 1 + 1 + 1 ≤ x) (fun _ => True) (.node t.op t.name t.n (t.args.map foldT)) (.slice asv t.args.length capsv) env0 (.slice none 0 0) (.slice none 0 0) (.slice none 0 0) (.slice none 0 0) wr HFO.out HRP.out HE0.out HFF.out HVF.out.1 rfl rfl).mono ?_
            rw [HVF.out.2]
            rintro r w3 ⟨rfl, hrg, hb3⟩
            have HRG := Lib.hid hrg
            have HB3 := Lib.hid hb3
            have o0' := below_cell hb3 o0
            have o1' := below_cell hb3 o1
            have o2' := below_cell hb3 o2
            have o3' := below_cell hb3 o3
            have x0' := below_cell hb3 x0
            have z0' := below_cell hb3 z0
            have z1' := below_cell hb3 z1
            have z2' := below_cell hb3 z2
            have z3' := below_cell hb3 z3
            have f0' := below_thaw hb3 z0 f0
            have f1' := below_thaw hb3 z1 f1
            have f2' := below_thaw hb3 z2 f2
            have f3' := below_thaw hb3 z3 f3
            have hs3 := hb3.size
            clear hb3 hrg o0 o1 o2 o3 x0 z0 z1 z2 z3 f0 f1 f2 f3
            by_cases hmin : v = -9223372036854775808
            · have hmin' : (v == -9223372036854775808) = true := by simp [hmin]
              have HT' := Lib.hid (show foldT t = .node t.op t.name t.n (t.args.map foldT) by rw [HT.out, if_pos hmin])
              clear hmin
              skip
              go_wp2_with fail
              refine bodyPost_ret (v := .agg #[.int .i64 t.op, .string t.name, .int .i64 t.n, .slice asv t.args.length capsv]) (by simp [results, Try.results73, go_sem, z0', z1', z2', z3']) rfl ?_
              exact HEND.out _ HB3.out HT'.out
            · have hmin' : (v == -9223372036854775808) = false := by simp [hmin]
              have HT' := Lib.hid (show foldT t = rlit v (t.op == 10 || decide (16 ≤ t.op)) by rw [HT.out, if_neg hmin]; exact lit_same t.op v H01.out)
              have HFL := Lib.hid (show Flds .i64 (rlit v (t.op == 10 || decide (16 ≤ t.op))) by
                rw [← lit_same t.op v H01.out]
                have := litT_flds t.op v HRG.out.1 HRG.out.2
                exact ⟨this.op, this.n, this.name, this.len⟩)
              clear hmin
              generalize hb10 : (t.op == 10) = b10 at *
              generalize hb16 : decide (16 ≤ t.op) = b16 at *
              have HRL := Lib.hid (rlit_any v (b10 || b16) w3 (fun hb => by
                rcases H01.out (by
                  rcases Bool.or_eq_true _ _ ▸ hb with h | h
                  · left; rw [← hb10] at h; simpa using h
                  · right; rw [← hb16] at h; simpa using h) with h | h <;> rw [h] <;> omega))
              have HEL := Lib.hid (fun (s : Ex) (hs : foldT t = s) (hfs : Flds .i64 s) (w4 : World) (h4 : Below w3.heap.size w3 w4) (c4 : Value) (hr4 : RepS .i64 (fun x => w3.heap.size ≤ x) w4 1 s.args c4) =>
                show Below w.heap.size w (set4 w4 (w.heap.size + 1) 0 (.int .i64 s.op) (.string s.name) (.int .i64 s.n) c4) ∧ ∃ c', Ending.returned (.agg #[.int .i64 s.op, .string s.name, .int .i64 s.n, c4]) = .returned (agg .i64 (foldT t) c') ∧ Flds .i64 (foldT t) ∧
                  RepS .i64 (fun x => w.heap.size ≤ x) (set4 w4 (w.heap.size + 1) 0 (.int .i64 s.op) (.string s.name) (.int .i64 s.n) c4) (d + 1) (foldT t).args c' by
                  rw [hs]
                  refine ⟨set4_below ((HI.out.below.trans (HB3.out.mono HI.out.below.size)).trans (h4.mono (by have := HI.out.below.size; omega))) (Nat.le_succ _) 0 _ _ _ _, _, rfl, hfs, ?_⟩
                  exact hr4.mono (fun x hx => by omega) (fun x o v hx hv => (set4_far w4 (w.heap.size + 1) 0 _ _ _ _ x o (by omega)).trans hv) (by omega))
              cases b10 <;> cases b16
              all_goals
                have HB1016 := Lib.hid (And.intro hb10 hb16)
                simp only [Bool.or_self, Bool.or_true, Bool.or_false] at HRL HT' HFL
                go_wp2_with fail
                refine HRL.out.mono ?_
                rintro r w4 ⟨hb4, c4, rfl, hr4⟩
                obtain ⟨a4, cap4, rfl⟩ := hr4.shape
                have HZ := Lib.hid (HEL.out _ HT'.out HFL.out w4 hb4 _ hr4)
                unfold agg
                have y0 := below_cell hb4 z0'
                have y1 := below_cell hb4 z1'
                have y2 := below_cell hb4 z2'
                have y3 := below_cell hb4 z3'
                have u0 := below_thaw hb4 z0' f0'
                have u1 := below_thaw hb4 z1' f1'
                have u2 := below_thaw hb4 z2' f2'
                have u3 := below_thaw hb4 z3' f3'
                clear hb4 hr4
                go_wp2_with fail
                refine bodyPost_ret (v := .agg #[_, _, _, _]) (by simp [results, Try.results73, go_sem, y0, y1, y2, y3]; exact ⟨rfl, rfl, rfl, rfl⟩) rfl ?_
                exact HZ.out
end Go.Proofs.Ytekhoanjpnjaeaa
