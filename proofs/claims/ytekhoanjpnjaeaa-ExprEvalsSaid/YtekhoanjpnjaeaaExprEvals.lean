/- ExprEvals: the value of any tree in any environment, or the first error; no condition. -/
import Derived.Test.YtekhoanjpnjaeaaRows
import Derived.Test.YtekhoanjpnjaeaaAwake
import Derived.Test.YtekhoanjpnjaeaaBuildTop
import Derived.Test.YtekhoanjpnjaeaaConv
import Derived.Test.YtekhoanjpnjaeaaEnv
import Derived.Test.YtekhoanjpnjaeaaOpenEnv
import Derived.Test.YtekhoanjpnjaeaaEvalsKit
import Derived.Test.YtekhoanjpnjaeaaLaw
import Derived.Test.YtekhoanjpnjaeaaFacts
import Derived.OpenShut
namespace Go.Proofs.Ytekhoanjpnjaeaa.exprEvals
open Go.ChangeShapes Go.WideShapes Go.ChangeAt Go.RowKit

set_option maxRecDepth 100000 in
set_option maxHeartbeats 2000000 in
theorem walk (ns : List Nd) (v : Value) (e : EnvD) (c1 c2 c3 c4 : Value) (w : World) (hl : ns.length ≤ maxLen) (hok : ∀ x ∈ ns, x.Ok) (hr : Row (fun _ => True) w 5 ns.length v (flat5 ns)) (hE : EnvRaw (fun _ => True) w e c1 c2 c3 c4) :
    Calls Try.prog 13 #[v, aggE e c1 c2 c3 c4] w fun r w' => r = .returned (.bool true) ∧ Below w.heap.size w w' := by
  have HL := Lib.hid (And.intro hl (And.intro hok hr))
  obtain ⟨a, cap, rfl, _⟩ := hr.shape
  have HE := Lib.hid hE
  clear hl hok hr hE
  unfold aggE
  go_enter Try.func13, Try.ntmps13
  go_wp2_with fail
  generalize hw0 : w.alloc (.cells #[c1, c2, c3, c4, .int .i64 e.now] 93) = w0
  have hm0 : More w w0 := by rw [← hw0]; exact World.grownBy_alloc _ _ _
  have hx0 : w0.heap[w.heap.size]? = some (.cells #[c1, c2, c3, c4, .int .i64 e.now] 93) := by rw [← hw0]; exact alloc_last _ _
  have hs0 : w.heap.size < w0.heap.size := by rw [← hw0]; simp
  clear hw0
  have HM0 := Lib.hid hm0
  have HX0 := Lib.hid hx0
  clear hm0 hx0
  refine (awake_any _).mono ?_
  rintro r w1 ⟨rfl, hb1⟩
  have HM1 := Lib.hid (more_of hb1); clear hb1
  have HS1 := Lib.hid (show w.heap.size < w1.heap.size from Nat.lt_of_lt_of_le hs0 HM1.out.size)
  go_wp2_with fail
  refine (Build_any (fun _ => True) ns (.slice a ns.length cap) w1 HL.out.1 HL.out.2.1 (HL.out.2.2.below (more_trans HM0.out HM1.out).below)).mono ?_
  rintro r w2 ⟨hb2, x2, rfl, hf2, hr2⟩
  obtain ⟨a2, cap2, rfl⟩ := hr2.shape
  have HM2 := Lib.hid (more_trans HM1.out (more_of hb2))
  have HT := Lib.hid (And.intro hf2 hr2); clear hf2 hr2 hb2
  generalize bldTop ns = t at *
  unfold agg
  have hy2 := (HM2.out.block hs0).trans HX0.out
  have hlt2 : w.heap.size < w2.heap.size := Nat.lt_of_lt_of_le hs0 HM2.out.size
  have e0 : w2.cell? ⟨w.heap.size, 0, none⟩ = some c1 := by simp [World.cell?, hy2]
  have e1 : w2.cell? ⟨w.heap.size, 1, none⟩ = some c2 := by simp [World.cell?, hy2]
  have e2 : w2.cell? ⟨w.heap.size, 2, none⟩ = some c3 := by simp [World.cell?, hy2]
  have e3 : w2.cell? ⟨w.heap.size, 3, none⟩ = some c4 := by simp [World.cell?, hy2]
  have e4 : w2.cell? ⟨w.heap.size, 4, none⟩ = some (.int .i64 e.now) := by simp [World.cell?, hy2]
  have HY2 := Lib.hid hy2
  clear hy2 hs0
  go_wp2_with fail
  clear e0 e1 e2 e3 e4
  generalize hw3 : w2.alloc (.cells #[.int .i64 t.op, .string t.name, .int .i64 t.n, .slice a2 t.args.length cap2] 36) = w3
  have hm3 : More w2 w3 := by rw [← hw3]; exact World.grownBy_alloc _ _ _
  have hx3 : w3.heap[w2.heap.size]? = some (.cells #[.int .i64 t.op, .string t.name, .int .i64 t.n, .slice a2 t.args.length cap2] 36) := by rw [← hw3]; exact alloc_last _ _
  have hs3 : w2.heap.size < w3.heap.size := by rw [← hw3]; simp
  clear hw3
  have HM3 := Lib.hid (more_trans HM2.out hm3)
  have HY3 := Lib.hid ((hm3.block hlt2).trans HY2.out)
  have HT3 := Lib.hid (show RepS .i64 (fun x => x ≠ w.heap.size) w3 30 t.args (.slice a2 t.args.length cap2) from (HT.out.2.below hm3.below).mono (fun x hx => by have h1 : w1.heap.size ≤ x := hx; have h2 := HS1.out; omega) (fun _ _ _ _ h => h) (Nat.le_refl _))
  have HX3 := Lib.hid (And.intro hx3 (And.intro hs3 hlt2))
  have HE3 := Lib.hid (HE.out.apart.more (more_trans HM0.out HM3.out))
  clear hm3 hx3 hs3 hlt2
  refine (small_any (fun x => x ≠ w.heap.size) e c1 c2 c3 c4 w3 HE3.out).mono ?_
  rintro r w4 ⟨hb4, d1, d2, d3, d4, rfl, hr4⟩
  have hm4 := more_of hb4
  have hlt3 : w.heap.size < w3.heap.size := by have := HX3.out.2; omega
  have hy4 := (hm4.block hlt3).trans HY3.out
  have HM4 := Lib.hid (more_trans (more_trans HM0.out HM3.out) hm4)
  have HT4 := Lib.hid (HT3.out.below hb4)
  have HX4 := Lib.hid (show w4.heap[w2.heap.size]? = some (.cells #[.int .i64 t.op, .string t.name, .int .i64 t.n, .slice a2 t.args.length cap2] 36) from (hm4.block HX3.out.2.1).trans HX3.out.1)
  have z0 : w4.cell? ⟨w.heap.size, 0, none⟩ = some c1 := by simp [World.cell?, hy4]
  have z1 : w4.cell? ⟨w.heap.size, 1, none⟩ = some c2 := by simp [World.cell?, hy4]
  have z2 : w4.cell? ⟨w.heap.size, 2, none⟩ = some c3 := by simp [World.cell?, hy4]
  have z3 : w4.cell? ⟨w.heap.size, 3, none⟩ = some c4 := by simp [World.cell?, hy4]
  have z4 : w4.cell? ⟨w.heap.size, 4, none⟩ = some (.int .i64 e.now) := by simp [World.cell?, hy4]
  have f0 := thaw hy4 0
  have f1 := thaw hy4 1
  have f2 := thaw hy4 2
  have f3 := thaw hy4 3
  have f4 := thaw hy4 4
  have HY4 := Lib.hid hy4
  have HR4 := Lib.hid (show EnvRep (fun x => x ≠ w.heap.size) w4 (smallE e) d1 d2 d3 d4 from hr4.mono (fun x hx => by
    rcases hx with h | h
    · exact h
    · omega))
  have H16 := Lib.hid (show ∀ t ∈ (smallE e).tabs, t.length ≤ 20 from fun t ht => by
    obtain ⟨y, _, rfl⟩ := List.mem_map.1 ht
    rw [List.length_take]; omega)
  have HTX := Lib.hid (show (∀ x ∈ (smallE e).names, x.size ≤ maxLen) ∧ ∀ x ∈ (smallE e).tnames, x.size ≤ maxLen from ⟨fun x hx => HE.out.text.1 x (List.mem_of_mem_take hx), fun x hx => HE.out.text.2 x (List.mem_of_mem_take hx)⟩)
  have hnow : (smallE e).now = e.now := rfl
  have HNOW := Lib.hid hnow
  clear hb4 hm4 hy4 hr4 hnow hlt3
  unfold aggE
  rw [HNOW.out]
  generalize hse : smallE e = s at *
  have HSE := Lib.hid hse; clear hse
  obtain ⟨p1, q1, rfl, _⟩ := HR4.out.names.shape
  obtain ⟨p2, q2, rfl, _⟩ := HR4.out.vals.shape
  obtain ⟨p3, q3, rfl, _⟩ := HR4.out.tnames.shape
  obtain ⟨p4, q4, rfl, _⟩ := HR4.out.tabs.choose_spec.1.shape
  go_wp2_with fail
  clear z0 z1 z2 z3 z4 f0 f1 f2 f3 f4
  generalize hw5' : ((((w4.setCell ⟨w.heap.size, 0, none⟩ (.slice p1 s.names.length q1)).setCell ⟨w.heap.size, 1, none⟩ (.slice p2 s.vals.length q2)).setCell ⟨w.heap.size, 2, none⟩ (.slice p3 s.tnames.length q3)).setCell ⟨w.heap.size, 3, none⟩ (.slice p4 s.tabs.length q4)).setCell ⟨w.heap.size, 4, none⟩ (.int .i64 e.now) = w5
  have hw5 : set5 w4 w.heap.size (.slice p1 s.names.length q1) (.slice p2 s.vals.length q2) (.slice p3 s.tnames.length q3) (.slice p4 s.tabs.length q4) (.int .i64 e.now) = w5 := hw5'
  clear hw5'
  have HB5 := Lib.hid (show Below w.heap.size w w5 by rw [← hw5]; exact set5_below HM4.out.below (Nat.le_refl _) _ _ _ _ _)
  have hcell : ∀ x o v, x ≠ w.heap.size → w4.cell? ⟨x, o, none⟩ = some v → w5.cell? ⟨x, o, none⟩ = some v := fun x o v hx hv => by
    rw [← hw5]; exact (World.cell?_of_block (w := w4) (a := ⟨x, o, none⟩) (set5_heap w4 w.heap.size _ _ _ _ _ x hx)).trans hv
  have hy5 : w5.heap[w.heap.size]? = some (.cells #[.slice p1 s.names.length q1, .slice p2 s.vals.length q2, .slice p3 s.tnames.length q3, .slice p4 s.tabs.length q4, .int .i64 e.now] 93) := by
    rw [← hw5]; exact set5_same HY4.out _ _ _ _ _
  have hx5 : w5.heap[w2.heap.size]? = some (.cells #[.int .i64 t.op, .string t.name, .int .i64 t.n, .slice a2 t.args.length cap2] 36) := by
    rw [← hw5, set5_heap w4 w.heap.size _ _ _ _ _ _ (by have := HX3.out.2.2; omega)]; exact HX4.out
  clear hw5
  have HT5 := Lib.hid (show RepS .i64 (fun _ => True) w5.drew 30 t.args (.slice a2 t.args.length cap2) from ((HT4.out.mono (S' := fun _ => True) (fun _ _ => trivial) (fun x o v hx hv => hcell x o v hx hv) (Nat.le_refl _)).drewN 1))
  have HE5 := Lib.hid (show EnvRep (fun _ => True) w5.drew s (.slice p1 s.names.length q1) (.slice p2 s.vals.length q2) (.slice p3 s.tnames.length q3) (.slice p4 s.tabs.length q4) from (HR4.out.mono' (fun x o v hx hv => ⟨trivial, hcell x o v hx hv⟩)).below (below_drewN w5 1 _))
  have s0 : w5.drew.cell? ⟨w2.heap.size, 0, none⟩ = some (.int .i64 t.op) := by show w5.cell? _ = _; simp [World.cell?, hx5]
  have s1 : w5.drew.cell? ⟨w2.heap.size, 1, none⟩ = some (.string t.name) := by show w5.cell? _ = _; simp [World.cell?, hx5]
  have s2 : w5.drew.cell? ⟨w2.heap.size, 2, none⟩ = some (.int .i64 t.n) := by show w5.cell? _ = _; simp [World.cell?, hx5]
  have s3 : w5.drew.cell? ⟨w2.heap.size, 3, none⟩ = some (.slice a2 t.args.length cap2) := by show w5.cell? _ = _; simp [World.cell?, hx5]
  have y0 : w5.drew.cell? ⟨w.heap.size, 0, none⟩ = some (.slice p1 s.names.length q1) := by show w5.cell? _ = _; simp [World.cell?, hy5]
  have y1 : w5.drew.cell? ⟨w.heap.size, 1, none⟩ = some (.slice p2 s.vals.length q2) := by show w5.cell? _ = _; simp [World.cell?, hy5]
  have y2 : w5.drew.cell? ⟨w.heap.size, 2, none⟩ = some (.slice p3 s.tnames.length q3) := by show w5.cell? _ = _; simp [World.cell?, hy5]
  have y3 : w5.drew.cell? ⟨w.heap.size, 3, none⟩ = some (.slice p4 s.tabs.length q4) := by show w5.cell? _ = _; simp [World.cell?, hy5]
  have y4 : w5.drew.cell? ⟨w.heap.size, 4, none⟩ = some (.int .i64 e.now) := by show w5.cell? _ = _; simp [World.cell?, hy5]
  clear hx5 hy5 hcell
  have HFT := Lib.hid HT.out.1
  have HC27 := Lib.hid (conv_any 30 (fun _ => True) t (.slice a2 t.args.length cap2) w5.drew HFT.out HT5.out)
  have HC52 := Lib.hid (fun (w' : World) (hm : More w5.drew w') => show Calls Try.prog 52 #[.agg #[.slice p1 s.names.length q1, .slice p2 s.vals.length q2, .slice p3 s.tnames.length q3, .slice p4 s.tabs.length q4, .int .i64 e.now]] w' fun r w'' => More w' w'' ∧ ∃ da dc, r = .returned (.agg #[.slice p1 s.names.length q1, .slice p2 s.vals.length q2, .slice p3 s.tnames.length q3, .slice da s.tabs.length dc, .int .i64 e.now]) ∧ EnvP (fun _ => True) w'' (progE s) (.slice p1 s.names.length q1) (.slice p2 s.vals.length q2) (.slice p3 s.tnames.length q3) (.slice da s.tabs.length dc) by
    have h := env_any (fun _ => True) s _ _ _ _ w' (HE5.out.below hm.below) H16.out
    unfold aggE at h
    rw [HNOW.out] at h
    refine h.mono ?_
    rintro r w'' ⟨hb, d4', rfl, hr, ha⟩
    obtain ⟨da, dc, rfl, _⟩ := hr.tabs.choose_spec.1.shape
    have hlen : (progE s).tabs.length = s.tabs.length := by simp [progE]
    rw [hlen] at hr
    refine ⟨more_of hb, da, dc, ?_, ⟨hr, ha, HTX.out⟩⟩
    rw [hlen]
    have : (progE s).now = e.now := HNOW.out
    rw [this])
  have HC51 := Lib.hid (fun (w' : World) (S : Nat → Prop) (x6 : Option Addr) (y6 : Nat) (da : Option Addr) (dc : Nat) (hr : RepS .u8 S w' 30 t.args (.slice x6 t.args.length y6)) (hp : EnvP (fun _ => True) w' (progE s) (.slice p1 s.names.length q1) (.slice p2 s.vals.length q2) (.slice p3 s.tnames.length q3) (.slice da s.tabs.length dc)) =>
    show Calls Try.prog 51 #[.agg #[.int .u8 t.op, .string t.name, .int .i64 t.n, .slice x6 t.args.length y6], .agg #[.slice p1 s.names.length q1, .slice p2 s.vals.length q2, .slice p3 s.tnames.length q3, .slice da s.tabs.length dc, .int .i64 e.now]] w' fun r w'' => More w' w'' ∧ r = .returned (.tuple #[.int .i64 (evalV s t).1, .int .i64 (evalV s t).2]) by
    have h := eval_any 30 S (fun _ => True) t (.slice x6 t.args.length y6) (progE s) _ _ _ _ w' (Flds.u8 HFT.out) hr hp
    unfold agg aggE at h
    rw [show (progE s).now = e.now from HNOW.out, evalV_prog] at h
    exact h.mono fun r w'' ⟨h1, h2⟩ => ⟨more_of h1, h2⟩)
  have HC53 := Lib.hid (fun (w' : World) (hm : More w5.drew w') =>
    show Calls Try.prog 53 #[.agg #[.int .i64 t.op, .string t.name, .int .i64 t.n, .slice a2 t.args.length cap2], .agg #[.slice p1 s.names.length q1, .slice p2 s.vals.length q2, .slice p3 s.tnames.length q3, .slice p4 s.tabs.length q4, .int .i64 e.now]] w' fun r w'' => More w' w'' ∧ r = .returned (.tuple #[.int .i64 (evalV s t).1, .int .i64 (evalV s t).2]) by
    have h := reval_any 30 (fun _ => True) (fun _ => True) t (.slice a2 t.args.length cap2) s _ _ _ _ w' HFT.out (HT5.out.below hm.below) (HE5.out.below hm.below)
    unfold agg aggE at h
    rw [HNOW.out] at h
    exact h.mono fun r w'' ⟨h1, h2⟩ => ⟨more_of h1, h2⟩)
  have HM5 := Lib.hid (HB5.out.trans (below_drewN w5 1 _))
  generalize evalV s t = V at *
  go_region_held3 (fun wx => (wx.cell? ⟨w2.heap.size, 0, none⟩ = some (.int .i64 t.op) ∧ wx.cell? ⟨w2.heap.size, 1, none⟩ = some (.string t.name) ∧ wx.cell? ⟨w2.heap.size, 2, none⟩ = some (.int .i64 t.n) ∧ wx.cell? ⟨w2.heap.size, 3, none⟩ = some (.slice a2 t.args.length cap2)) ∧ wx.cell? ⟨w.heap.size, 0, none⟩ = some (.slice p1 s.names.length q1) ∧ wx.cell? ⟨w.heap.size, 1, none⟩ = some (.slice p2 s.vals.length q2) ∧ wx.cell? ⟨w.heap.size, 2, none⟩ = some (.slice p3 s.tnames.length q3) ∧ wx.cell? ⟨w.heap.size, 3, none⟩ = some (.slice p4 s.tabs.length q4) ∧ wx.cell? ⟨w.heap.size, 4, none⟩ = some (.int .i64 e.now)) (first | with_reducible exact ⟨⟨s0, s1, s2, s3⟩, y0, y1, y2, y3, y4⟩ | with_reducible exact ⟨⟨k0, k1, k2, k3⟩, l0, l1, l2, l3, l4⟩ | with_reducible exact ⟨⟨m0, m1, m2, m3⟩, n0, n1, n2, n3, n4⟩ | with_reducible exact ⟨⟨i0, i1, i2, i3⟩, j0, j1, j2, j3, j4⟩) (first | (go_at_call 27; refine HC27.out.mono ?_; rintro r w6 ⟨hb6, c6, rfl, hr6⟩; obtain ⟨a6, cap6, rfl⟩ := hr6.shape; have hm6 : More w5.drew w6 := more_of hb6; unfold agg; have k0 := hm6.cell s0; have k1 := hm6.cell s1; have k2 := hm6.cell s2; have k3 := hm6.cell s3; have l0 := hm6.cell y0; have l1 := hm6.cell y1; have l2 := hm6.cell y2; have l3 := hm6.cell y3; have l4 := hm6.cell y4) | (go_at_call 52; refine (HC52.out w6 hm6).mono ?_; rintro r w7 ⟨hm7, da, dc, rfl, hp7⟩; have m0 := hm7.cell k0; have m1 := hm7.cell k1; have m2 := hm7.cell k2; have m3 := hm7.cell k3; have n0 := hm7.cell l0; have n1 := hm7.cell l1; have n2 := hm7.cell l2; have n3 := hm7.cell l3; have n4 := hm7.cell l4) | (go_at_call 51; refine (HC51.out w7 _ a6 cap6 da dc (hr6.below hm7.below) hp7).mono ?_; rintro r w8 ⟨hm8, rfl⟩; have i0 := hm8.cell m0; have i1 := hm8.cell m1; have i2 := hm8.cell m2; have i3 := hm8.cell m3; have j0 := hm8.cell n0; have j1 := hm8.cell n1; have j2 := hm8.cell n2; have j3 := hm8.cell n3; have j4 := hm8.cell n4))
  have hm58 := more_trans (more_trans hm6 hm7) hm8
  have HM58 := Lib.hid hm58
  clear k0 k1 k2 k3 l0 l1 l2 l3 l4 m0 m1 m2 m3 n0 n1 n2 n3 n4 s0 s1 s2 s3 y0 y1 y2 y3 y4 hm6 hm7 hm8 hm58 hp7 hr6 hb6
  go_wp2_with fail
  refine (HC53.out w8 HM58.out).mono ?_
  rintro r w9 ⟨hm9, rfl⟩
  have HB9 := Lib.hid (HM5.out.trans ((more_trans HM58.out hm9).below.mono HM5.out.size))
  clear hm9
  have q1 : (V.1 == V.1) = true := by simp
  have q2 : (V.2 == V.2) = true := by simp
  go_wp2_with fail
  go_ret
  exact ⟨rfl, HB9.out⟩

theorem oks : Try.f13.params.toList.all (fun t => Try.prog.readableRec t && decide (t < Try.prog.types.size)) = true := by kernel_rfl
theorem oks' : ∀ t ∈ Try.f13.params.toList, Try.prog.readableRec t = true ∧ t < Try.prog.types.size := fun t ht => by
  have h := List.all_eq_true.1 oks t ht
  rw [Bool.and_eq_true, decide_eq_true_eq] at h
  exact h
theorem kInPlace : (Rows.exprEvalsRow.inPlace == Try.prog.inPlace 13) = true := by kernel_rfl
theorem kUnf : (Rows.exprEvalsRow.unfollowed == Try.prog.unfollowed 13) = true := by kernel_rfl
theorem kRec : (Rows.exprEvalsRow.recurses == Try.prog.recurses 13) = true := by kernel_rfl
theorem kNamed : (Rows.exprEvalsRow.named == Try.prog.varsNamed 13) = true := by kernel_rfl
theorem closed : joinedFacts Try.prog 13 Try.f13 Rows.exprEvalsSpec Rows.exprEvalsRow = true :=
  closed_of (by as_aux_lemma => kernel_rfl) kLaid kMaps (by as_aux_lemma => kernel_rfl) (by as_aux_lemma => kernel_rfl) rfl kStops rfl kKnobs kInPlace kUnf kRec kNamed
    (by as_aux_lemma => kernel_rfl) (by as_aux_lemma => kernel_rfl) (by as_aux_lemma => kernel_rfl) (by as_aux_lemma => kernel_rfl) (by as_aux_lemma => kernel_rfl) rfl (by as_aux_lemma => kernel_rfl) (by as_aux_lemma => kernel_rfl) (by as_aux_lemma => kernel_rfl)
    kKeys rfl kHeard kEnter kLift kMake ⟨rfl, rfl⟩ rfl (by as_aux_lemma => kernel_rfl) (by as_aux_lemma => kernel_rfl)

set_option maxRecDepth 100000 in
theorem lifted (os : Os) (started : os.Started) (H : Type) (enc : TypeId × Value → H) :
    ReturnsInHanded {} Try.checked os 13 .any (Rows.exprEvalsSpec.pre6 enc Try.prog Try.f13 Rows.exprEvalsRow.domain false) (Rows.exprEvalsSpec.post enc Try.prog Try.f13 false true false false) := by
  refine returnsInHanded_of_change (C := Try.checked) kOwn started (by kernel_rfl) Try.func13
    (ChangeSpec.witness6 (enc := enc) (C := Try.checked) false ⟨#[], #[.slice none 0 0, .agg #[.slice none 0 0, .slice none 0 0, .slice none 0 0, .slice none 0 0, .int .i64 0]], []⟩ 8 (by kernel_rfl) (by kernel_rfl) (by kernel_rfl) (by kernel_rfl)) ?_
  intro W base args ds gs before hval0 hW hcnd _
  have hval : ∀ (j : Nat) t v, Try.f13.params[j]? = some t → args[j]? = some v → Value.okWide Try.prog W .any base t v := hval0
  have hW' := hW
  obtain ⟨p, q, hA0, hV, rfl, hfz, hnd⟩ := hW
  have hA : DataW.TrodAll enc Try.prog W 0 (fun _ => true) true Try.f13.params.toList args.toList ds p := hA0
  rw [Try.params13] at hA hval
  obtain ⟨v0, vs0, d0, ds0, p0, q0, hargs, rfl, rfl, h0, r0⟩ := trodAll_cons hA
  obtain ⟨v1, vs1, d1, ds1, p1, q1, rfl, rfl, rfl, h1, r1⟩ := trodAll_cons r0
  obtain ⟨rfl, rfl, rfl⟩ := trodAll_nil r1
  obtain rfl : args = #[v0, v1] := by cases args; simp_all
  obtain ⟨rfl, rfl⟩ := trodVars_none hV
  obtain ⟨xs, hok, hxl, hrow⟩ := open_rows cells5 Nd.Ok 5 (fun _ => rfl) (by omega) Try.underlying33 cells208 node_elem (okWide_slice Try.underlying33 (hval 0 33 v0 rfl rfl)) h0
  rw [flat5_eq] at hrow
  obtain ⟨e, c1, c2, c3, c4, rfl, hE⟩ := open_env (hval 1 93 v1 rfl rfl) h1
  refine (walk xs v0 e c1 c2 c3 c4 W hxl hok hrow hE).mono fun e W' ⟨he, hb⟩ => ?_
  subst he
  exact ⟨_, rfl, law_post kLaid oks' rfl rfl Try.underlying4 hW' rfl rfl rfl hb⟩

theorem over : Rows.exprEvalsRow.holds Try.pinned (OpenSpec.ofChange Rows.exprEvalsSpec) :=
  OpenClaim.holds_of_wide 13 Try.f13 rfl rfl rfl rfl rfl rfl rfl ⟨rfl, rfl, rfl, rfl, rfl⟩ rfl rfl rfl rfl rfl (by as_aux_lemma => kernel_rfl) Try.func13 closed
    (of_decide_eq_true (by as_aux_lemma => kernel_rfl)) (by unfold Func.isWrapper; first | (rw [if_pos (by decide +kernel)]; kernel_rfl) | (rw [if_neg (by decide +kernel)]; exact ⟨rfl, rfl⟩))
    (fun os started H enc _ => lifted os started H enc)

theorem proved : Rows.ExprEvalsSaid :=
  over
end Go.Proofs.Ytekhoanjpnjaeaa.exprEvals
