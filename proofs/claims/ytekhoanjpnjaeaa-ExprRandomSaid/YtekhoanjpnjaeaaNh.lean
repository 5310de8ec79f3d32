/- Texts Eval, RefFold, RefFoldTop, laid together. -/
import Derived.Deep.DeepMust
import Derived.Test.YtekhoanjpnjaeaaNb
import Derived.Test.YtekhoanjpnjaeaaNf
import Derived.Test.YtekhoanjpnjaeaaNg
/- expr.Eval (51). -/
namespace Go.Proofs.Ytekhoanjpnjaeaa
open Go.RowKit

/-- The value of an expression, and the error. -/
def evalV (e : EnvD) (t : Ex) : Int × Int :=
  if e.names.length ≠ e.vals.length ∨ e.tnames.length ≠ e.tabs.length then (0, 1) else if t.formed = false then (0, 6) else if boundT e t = false then (0, 9) else (valT e t, 0)
/-- The environment as the program has it. -/
structure EnvP (S : Nat → Prop) (w : World) (e : EnvD) (c1 c2 c3 c4 : Value) : Prop where
  rep : EnvRep S w e c1 c2 c3 c4
  asc : ∀ t ∈ e.tabs, Asc t
  text : (∀ x ∈ e.names, x.size ≤ maxLen) ∧ ∀ x ∈ e.tnames, x.size ≤ maxLen
theorem EnvP.below {S : Nat → Prop} {w w' : World} {e : EnvD} {c1 c2 c3 c4 : Value} (h : EnvP S w e c1 c2 c3 c4) (hB : Below w.heap.size w w') : EnvP S w' e c1 c2 c3 c4 := ⟨h.rep.below hB, h.asc, h.text⟩
theorem boxed_rep {S : Nat → Prop} {w : World} {d : Nat} {t : Ex} {c : Value} {b : Nat} (hb : w.heap[b]? = some (.cells #[.int .u8 t.op, .string t.name, .int .i64 t.n, c] 41)) (hf : Flds .u8 t) (hr : RepS .u8 S w d t.args c) : RepAt .u8 S w d t b 0 := by
  refine ⟨?_, ?_, ?_, hf, c, ?_, hr⟩ <;> simp [World.cell?, hb]

set_option maxHeartbeats 2000000 in
set_option maxRecDepth 100000 in
theorem eval_any (d : Nat) (S S' : Nat → Prop) (t : Ex) (c : Value) (e : EnvD) (c1 c2 c3 c4 : Value) (w : World) (hf : Flds .u8 t) (hr : RepS .u8 S w d t.args c) (hE : EnvP S' w e c1 c2 c3 c4) :
    Calls Try.prog 51 #[agg .u8 t c, aggE e c1 c2 c3 c4] w fun r w' => Below w.heap.size w w' ∧ r = .returned (.tuple #[.int .i64 (evalV e t).1, .int .i64 (evalV e t).2]) := by
  obtain ⟨a, cap, rfl⟩ := hr.shape
  obtain ⟨a1, cap1, rfl, _⟩ := hE.rep.names.shape
  obtain ⟨a2, cap2, rfl, _⟩ := hE.rep.vals.shape
  obtain ⟨a3, cap3, rfl, _⟩ := hE.rep.tnames.shape
  obtain ⟨a4, cap4, rfl, _⟩ := hE.rep.tabs.choose_spec.1.shape
  have HF := Lib.hid hf; clear hf
  have HR := Lib.hid hr; clear hr
  have HE := Lib.hid hE
  have hsm := hE.rep.small.1
  have hsm2 := hE.rep.small.2.2.1
  clear hE
  generalize hV : evalV e t = V
  have HV := Lib.hid hV; clear hV
  unfold agg aggE
  by_cases hn1 : e.names.length = e.vals.length
  · by_cases hn2 : e.tnames.length = e.tabs.length
    · have t1 : ((e.names.length : Int) != (e.vals.length : Int)) = false := by simp [hn1]
      have t2 : ((e.tnames.length : Int) != (e.tabs.length : Int)) = false := by simp [hn2]
      have HV1 := Lib.hid (show V = if t.formed = false then (0, 6) else if boundT e t = false then (0, 9) else (valT e t, 0) by rw [← HV.out]; unfold evalV; rw [if_neg (by simp [hn1, hn2])])
      have HN := Lib.hid (And.intro hn1 hn2); clear hn1 hn2 HV
      go_enter Try.func51, Try.ntmps51
      go_wp2_with fail
      generalize hw2 : (w.alloc (.cells #[.int .u8 t.op, .string t.name, .int .i64 t.n, .slice a t.args.length cap] 41)).alloc (.cells #[.slice a1 e.names.length cap1, .slice a2 e.vals.length cap2, .slice a3 e.tnames.length cap3, .slice a4 e.tabs.length cap4, .int .i64 e.now] 97) = w2
      have hm2 : More w w2 := by rw [← hw2]; exact grownBy_alloc2 _ _ _ _
      have hx2 : w2.heap[w.heap.size]? = some (.cells #[.int .u8 t.op, .string t.name, .int .i64 t.n, .slice a t.args.length cap] 41) := by rw [← hw2, Below.heap_alloc _ _ _ (by simp)]; exact alloc_last _ _
      have hy2 : w2.heap[w.heap.size + 1]? = some (.cells #[.slice a1 e.names.length cap1, .slice a2 e.vals.length cap2, .slice a3 e.tnames.length cap3, .slice a4 e.tabs.length cap4, .int .i64 e.now] 97) := by rw [← hw2]; exact alloc_at _ _ (by simp)
      clear hw2
      have HX2 := Lib.hid (show RepAt .u8 S w2 d t w.heap.size 0 from boxed_rep hx2 HF.out (HR.out.below hm2.below))
      have HE2 := Lib.hid (HE.out.below hm2.below)
      have HM2 := Lib.hid hm2
      have HY2 := Lib.hid hy2
      clear hm2 hx2 hy2
      refine (formed_any d S t w.heap.size 0 w2 HX2.out).mono ?_
      generalize hfm : t.formed = fm at *
      have HFM := Lib.hid hfm; clear hfm
      rintro r w3 ⟨rfl, n3, rfl⟩
      cases fm with
      | false =>
        go_wp2_with fail
        go_ret2
        exact ⟨(more_trans HM2.out (grownBy_drewN _ _ _)).below, by rw [HV1.out]; rfl⟩
      | true =>
        generalize hw3 : w2.drewN n3 = w3
        have hm3 : More w2 w3 := by rw [← hw3]; exact grownBy_drewN _ _ _
        clear hw3
        have hy3 := (hm3.block (b := w.heap.size + 1) (by rcases Nat.lt_or_ge (w.heap.size + 1) w2.heap.size with h | h; exact h; have := HY2.out; rw [Array.getElem?_eq_none h] at this; cases this)).trans HY2.out
        have HX3 := Lib.hid (HX2.out.below hm3.below)
        have HE3 := Lib.hid (HE2.out.below hm3.below)
        have HM3 := Lib.hid (more_trans HM2.out hm3)
        clear HX2 HE2 HM2 HY2 hm3
        have y0 : w3.drew.cell? ⟨w.heap.size + 1, 0, none⟩ = some (.slice a1 e.names.length cap1) := by show w3.cell? _ = _; simp [World.cell?, hy3]
        have y1 : w3.drew.cell? ⟨w.heap.size + 1, 1, none⟩ = some (.slice a2 e.vals.length cap2) := by show w3.cell? _ = _; simp [World.cell?, hy3]
        have y2 : w3.drew.cell? ⟨w.heap.size + 1, 2, none⟩ = some (.slice a3 e.tnames.length cap3) := by show w3.cell? _ = _; simp [World.cell?, hy3]
        have y3 : w3.drew.cell? ⟨w.heap.size + 1, 3, none⟩ = some (.slice a4 e.tabs.length cap4) := by show w3.cell? _ = _; simp [World.cell?, hy3]
        have y4 : w3.drew.cell? ⟨w.heap.size + 1, 4, none⟩ = some (.int .i64 e.now) := by show w3.cell? _ = _; simp [World.cell?, hy3]
        have HRN := Lib.hid (fun (w' : World) (hm : More w3.drew w') => (HE3.out.rep.names.below (more_drew w3).below).below hm.below)
        have HRT := Lib.hid (fun (w' : World) (hm : More w3.drew w') => (HE3.out.rep.tnames.below (more_drew w3).below).below hm.below)
        have HM0 := Lib.hid (show More w3.drew w3.drew from World.grownBy.refl _ _)
        clear hy3
        go_wp2_with fail
        go_region_held3 (fun wx => wx.cell? ⟨w.heap.size + 1, 0, none⟩ = some (.slice a1 e.names.length cap1) ∧ wx.cell? ⟨w.heap.size + 1, 1, none⟩ = some (.slice a2 e.vals.length cap2) ∧ wx.cell? ⟨w.heap.size + 1, 2, none⟩ = some (.slice a3 e.tnames.length cap3) ∧ wx.cell? ⟨w.heap.size + 1, 3, none⟩ = some (.slice a4 e.tabs.length cap4) ∧ wx.cell? ⟨w.heap.size + 1, 4, none⟩ = some (.int .i64 e.now)) (first | with_reducible exact ⟨y0, y1, y2, y3, y4⟩ | with_reducible exact ⟨k0, k1, k2, k3, k4⟩ | with_reducible exact ⟨l0, l1, l2, l3, l4⟩ | exact ⟨alloc_cell _ l0, alloc_cell _ l1, alloc_cell _ l2, alloc_cell _ l3, alloc_cell _ l4⟩ | exact ⟨alloc_cell _ k0, alloc_cell _ k1, alloc_cell _ k2, alloc_cell _ k3, alloc_cell _ k4⟩) (first | (go_at_call_of 95 a1; refine (places_any S' e.names (.slice a1 e.names.length cap1) _ hsm HE3.out.text.1 (HRN.out _ (by first | exact HM0.out | exact hmT))).mono ?_; rintro r wN ⟨hbN, bN, rfl, hlN, hpN⟩; have hmN : More w3.drew wN := (by first | exact more_trans hmT (more_of hbN) | exact more_of hbN); have k0 := hmN.cell y0; have k1 := hmN.cell y1; have k2 := hmN.cell y2; have k3 := hmN.cell y3; have k4 := hmN.cell y4) | (go_at_call_of 95 a3; refine (places_any S' e.tnames (.slice a3 e.tnames.length cap3) _ hsm2 HE3.out.text.2 (HRT.out _ (by first | exact HM0.out | exact hmN))).mono ?_; rintro r wT ⟨hbT, bT, rfl, hlT, hpT⟩; have hmT : More w3.drew wT := (by first | exact more_trans hmN (more_of hbT) | exact more_of hbT); have l0 := hmT.cell y0; have l1 := hmT.cell y1; have l2 := hmT.cell y2; have l3 := hmT.cell y3; have l4 := hmT.cell y4))
        clear k0 k1 k2 k3 k4 l0 l1 l2 l3 l4 y0 y1 y2 y3 y4
        generalize hw4 : wT.alloc (.cells #[.slice a1 e.names.length cap1, .slice a2 e.vals.length cap2, .slice a3 e.tnames.length cap3, .slice a4 e.tabs.length cap4, .int .i64 e.now, .map (some bN), .map (some bT)] 175) = w4
        have hm4 : More wT w4 := by rw [← hw4]; exact World.grownBy_alloc _ _ _
        have hx4 : w4.heap[wT.heap.size]? = some (.cells #[.slice a1 e.names.length cap1, .slice a2 e.vals.length cap2, .slice a3 e.tnames.length cap3, .slice a4 e.tabs.length cap4, .int .i64 e.now, .map (some bN), .map (some bT)] 175) := by rw [← hw4]; exact alloc_last _ _
        clear hw4
        have hm34 : More w3 w4 := more_trans (more_trans (more_drew w3) hmT) hm4
        have HS4 := Lib.hid (show ScopeRep S' w4 wT.heap.size e (.slice a1 e.names.length cap1) (.slice a2 e.vals.length cap2) (.slice a3 e.tnames.length cap3) (.slice a4 e.tabs.length cap4) bN bT from
          ⟨hx4, HE3.out.rep.below hm34.below, HE3.out.asc, (hpN.below hbT).below hm4.below, hpT.below hm4.below⟩)
        have HX4 := Lib.hid (HX3.out.below hm34.below)
        have HM4 := Lib.hid (more_trans HM3.out hm34)
        clear hm34 hx4 hm4 hmT hmN hbT hbN hpT hpN hlN hlT
        go_wp2_with fail
        refine (known_any d S S' t w.heap.size 0 w4 wT.heap.size e _ _ _ _ bN bT HX4.out HS4.out).mono ?_
        generalize hbd : boundT e t = bd at *
        have HBD := Lib.hid hbd; clear hbd
        rintro r w5 ⟨rfl, n5, rfl⟩
        cases bd with
        | false =>
          go_wp2_with fail
          go_ret2
          exact ⟨(more_trans HM4.out (grownBy_drewN _ _ _)).below, by rw [HV1.out]; rfl⟩
        | true =>
          go_wp2_with fail
          refine (valueP_any d S S' t w.heap.size 0 (w4.drewN n5) wT.heap.size e _ _ _ _ bN bT (HX4.out.drewN n5) (HS4.out.below (below_drewN _ _ _)) HFM.out HBD.out HN.out.1 HN.out.2).mono ?_
          generalize hv : valT e t = v at *
          have HVV := Lib.hid hv; clear hv
          rintro r w6 ⟨rfl, hb6⟩
          have HB6 := Lib.hid (more_trans (more_trans HM4.out (grownBy_drewN _ _ _)) (more_of hb6)).below
          clear hb6
          go_wp2_with fail
          go_ret2
          exact ⟨HB6.out, by rw [HV1.out]; rfl⟩
    · have t1 : ((e.names.length : Int) != (e.vals.length : Int)) = false := by simp [hn1]
      have t2 : ((e.tnames.length : Int) != (e.tabs.length : Int)) = true := by simp; omega
      have HV1 := Lib.hid (show V = (0, 1) by rw [← HV.out]; unfold evalV; rw [if_pos (by simp [hn2])])
      clear hn1 hn2 HV
      go_enter Try.func51, Try.ntmps51
      go_wp2_with fail
      go_ret2
      exact ⟨More.below (grownBy_alloc2 _ _ _ _), by rw [HV1.out]; rfl⟩
  · have t1 : ((e.names.length : Int) != (e.vals.length : Int)) = true := by simp; omega
    have HV1 := Lib.hid (show V = (0, 1) by rw [← HV.out]; unfold evalV; rw [if_pos (by simp [hn1])])
    clear hn1 HV
    go_enter Try.func51, Try.ntmps51
    go_wp2_with fail
    go_ret2
    exact ⟨More.below (grownBy_alloc2 _ _ _ _), by rw [HV1.out]; rfl⟩
end Go.Proofs.Ytekhoanjpnjaeaa

/- The contracts of ref10.fold and ref10.Fold. -/
namespace Go.Proofs.Ytekhoanjpnjaeaa
open Go.RowKit

theorem Try.info36 : (Try.prog.info? 36).map (fun i => (i.zero, i.size, i.bytes)) = some (some (.agg #[.int .i64 0, .string ByteArray.empty, .int .i64 0, .slice none 0 0]), 4, 56) := by kernel_rfl

structure RFoldInv (w : World) (t : Ex) (c : Value) (d k : Nat) (wr : World) : Prop where
  below : Below w.heap.size w wr
  size : w.heap.size + 1 + 1 + 1 ≤ wr.heap.size
  bx : wr.heap[w.heap.size]? = some (.cells #[.int .i64 t.op, .string t.name, .int .i64 t.n, c] 36)
  res : wr.heap[w.heap.size + 1]? = some (.cells #[.int .i64 0, .string ⟨#[]⟩, .int .i64 0, .slice none 0 0] 36)
  out : ∃ sv, wr.heap[w.heap.size + 1 + 1]? = some (.cells #[.int .i64 t.op, .string t.name, .int .i64 t.n, sv] 36) ∧ Grow .i64 36 (w.heap.size + 1 + 1 + 1) wr d sv ((t.args.take k).map foldT)

theorem RFoldInv.start (w : World) (t : Ex) (c : Value) (d : Nat) : RFoldInv w t c d 0 (((w.alloc (.cells #[.int .i64 t.op, .string t.name, .int .i64 t.n, c] 36)).alloc (.cells #[.int .i64 0, .string ⟨#[]⟩, .int .i64 0, .slice none 0 0] 36)).alloc (.cells #[.int .i64 t.op, .string t.name, .int .i64 t.n, .slice none 0 0] 36)) := by
  refine ⟨(((Below.refl _ _).alloc (Nat.le_refl _) _).alloc (by simp) _).alloc (by simp; omega) _, by simp, ?_, ?_, ⟨_, ?_, Grow.nil _ _ _ _ _⟩⟩
  · rw [Below.heap_alloc _ _ _ (by simp; omega), Below.heap_alloc _ _ _ (by simp)]; exact alloc_last _ _
  · rw [Below.heap_alloc _ _ _ (by simp)]; exact alloc_at _ _ (by simp)
  · exact alloc_at _ _ (by simp)

/-- A step that only makes blocks. -/
theorem RFoldInv.more {w wr w' : World} {t : Ex} {c : Value} {d k : Nat} (h : RFoldInv w t c d k wr) (hb : Below wr.heap.size wr w') : RFoldInv w t c d k w' := by
  have hs := h.size
  obtain ⟨sv, h1, h2⟩ := h.out
  exact ⟨h.below.trans (hb.mono h.below.size), Nat.le_trans hs hb.size, (hb.block _ (by omega)).trans h.bx, (hb.block _ (by omega)).trans h.res, sv, (hb.block _ (by omega)).trans h1, h2.keep (fun x _ hx => hb.block x hx)⟩

theorem RFoldInv.step {w wr w2 : World} {t x : Ex} {c : Value} {d k : Nat} {sv sv' : Value} {o : Obj} (hI : RFoldInv w t c d k wr) (hk : k < t.args.length) (hx : foldT t.args[k] = x)
    (hsv : wr.heap[w.heap.size + 1 + 1]? = some (.cells #[.int .i64 t.op, .string t.name, .int .i64 t.n, sv] 36))
    (hg : (wr.alloc o).grownBy w2 sv.ownBlock) (hgrow : Grow .i64 36 (w.heap.size + 1 + 1 + 1) w2 d sv' ((t.args.take k).map foldT ++ [x])) (hon : ∀ y, sv.ownBlock = some y → w.heap.size + 1 + 1 + 1 ≤ y) :
    RFoldInv w t c d (k + 1) (w2.setCell ⟨w.heap.size + 1 + 1, 3, none⟩ sv') := by
  have hs := hI.size
  have e2 : ∀ y, y < wr.heap.size → y < w.heap.size + 1 + 1 + 1 → w2.heap[y]? = wr.heap[y]? := by
    intro y hy hy'
    rw [hg.block y (by rw [World.size_alloc]; omega) (fun e => by have := hon y e.symm; omega)]
    exact Below.heap_alloc _ _ _ hy
  have hs2 : wr.heap.size ≤ w2.heap.size := by have := hg.size; rw [World.size_alloc] at this; omega
  have hss : (w2.setCell ⟨w.heap.size + 1 + 1, 3, none⟩ sv').heap.size = w2.heap.size := by simp [World.setCell]
  refine ⟨⟨hg.os.trans hI.below.os, hg.tape.trans hI.below.tape, hg.output.trans hI.below.output, by rw [hss]; have := hI.below.size; omega, fun y hy => ?_⟩, by rw [hss]; omega, ?_, ?_, ⟨sv', ?_, ?_⟩⟩
  · rw [Below.heap_setCell _ _ _ _ (show y ≠ w.heap.size + 1 + 1 by omega), e2 y (by omega) (by omega)]; exact hI.below.block y hy
  · rw [Below.heap_setCell _ _ _ _ (show w.heap.size ≠ w.heap.size + 1 + 1 by omega), e2 _ (by omega) (by omega)]; exact hI.bx
  · rw [Below.heap_setCell _ _ _ _ (show w.heap.size + 1 ≠ w.heap.size + 1 + 1 by omega), e2 _ (by omega) (by omega)]; exact hI.res
  · rw [heap_setCell_same _ _ _ _ _ _ ((e2 _ (by omega) (by omega)).trans hsv)]; rfl
  · rw [List.take_succ_eq_append_getElem hk, List.map_append, List.map_cons, List.map_nil, hx]
    exact hgrow.keep (fun y hy _ => Below.heap_setCell _ _ _ _ (show y ≠ w.heap.size + 1 + 1 by omega))

end Go.Proofs.Ytekhoanjpnjaeaa

/- The contract of ref10.Fold. -/
namespace Go.Proofs.Ytekhoanjpnjaeaa
open Go.RowKit
end Go.Proofs.Ytekhoanjpnjaeaa

