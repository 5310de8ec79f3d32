/- ref10.Eval (53). -/
import Derived.Test.YtekhoanjpnjaeaaRefBound
namespace Go.Proofs.Ytekhoanjpnjaeaa
open Go.RowKit

set_option maxHeartbeats 2000000 in
set_option maxRecDepth 100000 in
theorem reval_any (d : Nat) (S S' : Nat → Prop) (t : Ex) (c : Value) (e : EnvD) (c1 c2 c3 c4 : Value) (w : World) (hf : Flds .i64 t) (hr : RepS .i64 S w d t.args c) (hE : EnvRep S' w e c1 c2 c3 c4) :
    Calls Try.prog 53 #[agg .i64 t c, aggE e c1 c2 c3 c4] w fun r w' => Below w.heap.size w w' ∧ r = .returned (.tuple #[.int .i64 (evalV e t).1, .int .i64 (evalV e t).2]) := by
  obtain ⟨a, cap, rfl⟩ := hr.shape
  obtain ⟨a1, cap1, rfl, _⟩ := hE.names.shape
  obtain ⟨a2, cap2, rfl, _⟩ := hE.vals.shape
  obtain ⟨a3, cap3, rfl, _⟩ := hE.tnames.shape
  obtain ⟨a4, cap4, rfl, _⟩ := hE.tabs.choose_spec.1.shape
  have HF := Lib.hid hf; clear hf
  have HR := Lib.hid hr; clear hr
  have HE := Lib.hid hE; clear hE
  generalize hV : evalV e t = V
  have HV := Lib.hid hV; clear hV
  have HC72 := Lib.hid (fun (w' : World) (hm : Below w.heap.size w w') => rformed_any d S t (.slice a t.args.length cap) w' HF.out (HR.out.below hm))
  unfold agg aggE
  by_cases hn1 : e.names.length = e.vals.length
  · by_cases hn2 : e.tnames.length = e.tabs.length
    · have t1 : ((e.names.length : Int) != (e.vals.length : Int)) = false := by simp [hn1]
      have t2 : ((e.tnames.length : Int) != (e.tabs.length : Int)) = false := by simp [hn2]
      have HV1 := Lib.hid (show V = if t.formed = false then (0, 6) else if boundT e t = false then (0, 9) else (valT e t, 0) by rw [← HV.out]; unfold evalV; rw [if_neg (by simp [hn1, hn2])])
      have HN := Lib.hid (And.intro hn1 hn2); clear hn1 hn2 HV
      go_enter Try.func53, Try.ntmps53
      go_wp2_with fail
      generalize hw2 : (w.alloc (.cells #[.int .i64 t.op, .string t.name, .int .i64 t.n, .slice a t.args.length cap] 36)).alloc (.cells #[.slice a1 e.names.length cap1, .slice a2 e.vals.length cap2, .slice a3 e.tnames.length cap3, .slice a4 e.tabs.length cap4, .int .i64 e.now] 93) = w2
      have hm2 : More w w2 := by rw [← hw2]; exact grownBy_alloc2 _ _ _ _
      have hx2 : w2.heap[w.heap.size]? = some (.cells #[.int .i64 t.op, .string t.name, .int .i64 t.n, .slice a t.args.length cap] 36) := by rw [← hw2, Below.heap_alloc _ _ _ (by simp)]; exact alloc_last _ _
      have hy2 : w2.heap[w.heap.size + 1]? = some (.cells #[.slice a1 e.names.length cap1, .slice a2 e.vals.length cap2, .slice a3 e.tnames.length cap3, .slice a4 e.tabs.length cap4, .int .i64 e.now] 93) := by rw [← hw2]; exact alloc_at _ _ (by simp)
      clear hw2
      have HX2 := Lib.hid (And.intro hx2 hy2)
      have HM2 := Lib.hid hm2
      clear hm2 hx2 hy2
      refine (HC72.out w2 HM2.out.below).mono ?_
      generalize hfm : t.formed = fm at *
      have HFM := Lib.hid hfm; clear hfm
      rintro r w3 ⟨rfl, hb3⟩
      have hm3 := more_of hb3
      have hs2 : w.heap.size + 1 < w2.heap.size := by
        rcases Nat.lt_or_ge (w.heap.size + 1) w2.heap.size with h | h
        · exact h
        · have := HX2.out.2; rw [Array.getElem?_eq_none h] at this; cases this
      have hx3 := (hm3.block (b := w.heap.size) (by omega)).trans HX2.out.1
      have hy3 := (hm3.block hs2).trans HX2.out.2
      have HM3 := Lib.hid (more_trans HM2.out hm3)
      have hs3 : w.heap.size + 1 < w3.heap.size := Nat.lt_of_lt_of_le hs2 hm3.size
      have x0 : w3.cell? ⟨w.heap.size, 0, none⟩ = some (.int .i64 t.op) := by simp [World.cell?, hx3]
      have x1 : w3.cell? ⟨w.heap.size, 1, none⟩ = some (.string t.name) := by simp [World.cell?, hx3]
      have x2 : w3.cell? ⟨w.heap.size, 2, none⟩ = some (.int .i64 t.n) := by simp [World.cell?, hx3]
      have x3 : w3.cell? ⟨w.heap.size, 3, none⟩ = some (.slice a t.args.length cap) := by simp [World.cell?, hx3]
      have y0 : w3.cell? ⟨w.heap.size + 1, 0, none⟩ = some (.slice a1 e.names.length cap1) := by simp [World.cell?, hy3]
      have y1 : w3.cell? ⟨w.heap.size + 1, 1, none⟩ = some (.slice a2 e.vals.length cap2) := by simp [World.cell?, hy3]
      have y2 : w3.cell? ⟨w.heap.size + 1, 2, none⟩ = some (.slice a3 e.tnames.length cap3) := by simp [World.cell?, hy3]
      have y3 : w3.cell? ⟨w.heap.size + 1, 3, none⟩ = some (.slice a4 e.tabs.length cap4) := by simp [World.cell?, hy3]
      have y4 : w3.cell? ⟨w.heap.size + 1, 4, none⟩ = some (.int .i64 e.now) := by simp [World.cell?, hy3]
      clear HX2 HM2 hm3 hb3 hx3 hy3
      cases fm with
      | false =>
        go_wp2_with fail
        go_ret2
        exact ⟨HM3.out.below, by rw [HV1.out]; rfl⟩
      | true =>
        go_wp2_with fail
        refine (bound_any d S S' t (.slice a t.args.length cap) e (.slice a1 e.names.length cap1) (.slice a2 e.vals.length cap2) (.slice a3 e.tnames.length cap3) (.slice a4 e.tabs.length cap4) w3 HF.out (HR.out.below HM3.out.below) (HE.out.below HM3.out.below)).mono ?_
        generalize hbd : boundT e t = bd at *
        have HBD := Lib.hid hbd; clear hbd
        rintro r w4 ⟨rfl, hb4⟩
        have hm4 := more_of hb4
        have i0 := hm4.cell x0
        have i1 := hm4.cell x1
        have i2 := hm4.cell x2
        have i3 := hm4.cell x3
        have j0 := hm4.cell y0
        have j1 := hm4.cell y1
        have j2 := hm4.cell y2
        have j3 := hm4.cell y3
        have j4 := hm4.cell y4
        have HM4 := Lib.hid (more_trans HM3.out hm4)
        clear hb4 hm4 x0 x1 x2 x3 y0 y1 y2 y3 y4
        cases bd with
        | false =>
          go_wp2_with fail
          go_ret2
          exact ⟨HM4.out.below, by rw [HV1.out]; rfl⟩
        | true =>
          go_wp2_with fail
          refine (value_any d S S' t (.slice a t.args.length cap) e (.slice a1 e.names.length cap1) (.slice a2 e.vals.length cap2) (.slice a3 e.tnames.length cap3) (.slice a4 e.tabs.length cap4) w4 HF.out (HR.out.below HM4.out.below) (HE.out.below HM4.out.below) HFM.out HBD.out HN.out.1 HN.out.2).mono ?_
          generalize hv : valT e t = v at *
          have HVV := Lib.hid hv; clear hv
          rintro r w5 ⟨rfl, _, hb5⟩
          have HB5 := Lib.hid (more_trans HM4.out (more_of hb5)).below
          clear hb5
          go_wp2_with fail
          go_ret2
          exact ⟨HB5.out, by rw [HV1.out]; rfl⟩
    · have t1 : ((e.names.length : Int) != (e.vals.length : Int)) = false := by simp [hn1]
      have t2 : ((e.tnames.length : Int) != (e.tabs.length : Int)) = true := by simp; omega
      have HV1 := Lib.hid (show V = (0, 1) by rw [← HV.out]; unfold evalV; rw [if_pos (by simp [hn2])])
      clear hn1 hn2 HV
      go_enter Try.func53, Try.ntmps53
      go_wp2_with fail
      go_ret2
      exact ⟨More.below (grownBy_alloc2 _ _ _ _), by rw [HV1.out]; rfl⟩
  · have t1 : ((e.names.length : Int) != (e.vals.length : Int)) = true := by simp; omega
    have HV1 := Lib.hid (show V = (0, 1) by rw [← HV.out]; unfold evalV; rw [if_pos (by simp [hn1])])
    clear hn1 HV
    go_enter Try.func53, Try.ntmps53
    go_wp2_with fail
    go_ret2
    exact ⟨More.below (grownBy_alloc2 _ _ _ _), by rw [HV1.out]; rfl⟩
end Go.Proofs.Ytekhoanjpnjaeaa
