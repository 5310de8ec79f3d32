/- ExprKeeps: the folded expression has the same value, or error, in every environment, is folded itself, and e is unchanged; no condition. -/
import Derived.Test.YtekhoanjpnjaeaaRows
import Derived.Test.YtekhoanjpnjaeaaAwake
import Derived.Test.YtekhoanjpnjaeaaBuildTop
import Derived.Test.YtekhoanjpnjaeaaConv
import Derived.Test.YtekhoanjpnjaeaaEqual
import Derived.Test.YtekhoanjpnjaeaaKeeps
import Derived.Test.YtekhoanjpnjaeaaLaw
import Derived.Test.YtekhoanjpnjaeaaFacts
import Derived.OpenShut
namespace Go.Proofs.Ytekhoanjpnjaeaa.exprKeeps
open Go.ChangeShapes Go.WideShapes Go.ChangeAt Go.RowKit

set_option maxRecDepth 100000 in
set_option maxHeartbeats 2000000 in
theorem walk (ns : List Nd) (v : Value) (e : EnvD) (c1 c2 c3 c4 : Value) (w : World) (hl : ns.length ≤ maxLen) (hok : ∀ x ∈ ns, x.Ok) (hr : Row (fun _ => True) w 5 ns.length v (flat5 ns)) (hE : EnvRaw (fun _ => True) w e c1 c2 c3 c4) :
    Calls Try.prog 15 #[v, aggE e c1 c2 c3 c4] w fun r w' => r = .returned (.bool true) ∧ Below w.heap.size w w' := by
  have HL := Lib.hid (And.intro hl (And.intro hok hr))
  obtain ⟨a, cap, rfl, _⟩ := hr.shape
  have HE := Lib.hid hE
  clear hl hok hr hE
  have HC24 := Lib.hid (fun (w' : World) (hm : More w w') => Build_any (fun _ => True) ns (.slice a ns.length cap) w' HL.out.1 HL.out.2.1 (HL.out.2.2.below hm.below))
  unfold aggE
  go_enter Try.func15, Try.ntmps15
  go_wp2_with fail
  generalize hw0 : w.alloc (.cells #[c1, c2, c3, c4, .int .i64 e.now] 93) = w0
  have hm0 : More w w0 := by rw [← hw0]; exact World.grownBy_alloc _ _ _
  have hx0 : w0.heap[w.heap.size]? = some (.cells #[c1, c2, c3, c4, .int .i64 e.now] 93) := by rw [← hw0]; exact alloc_last _ _
  have hs0 : w.heap.size < w0.heap.size := by rw [← hw0]; simp
  clear hw0
  have HM0 := Lib.hid hm0
  have HX0 := Lib.hid hx0
  clear hm0 hx0
  refine (awake_any _).mono ?_
  rintro r w1 ⟨rfl, hb1⟩
  have HM1 := Lib.hid (more_of hb1); clear hb1
  go_wp2_with fail
  refine (HC24.out w1 (more_trans HM0.out HM1.out)).mono ?_
  rintro r w2 ⟨hb2, x2, rfl, hf2, hr2⟩
  obtain ⟨a2, cap2, rfl⟩ := hr2.shape
  have HM2 := Lib.hid (more_trans HM1.out (more_of hb2))
  have HFT := Lib.hid hf2
  have HT := Lib.hid hr2; clear hf2 hr2 hb2
  generalize bldTop ns = t at *
  have HNUM := Lib.hid (show t.num from (num_eq t).2 ⟨in64_of HFT.out.n, rep_num HT.out⟩)
  unfold agg
  go_wp2_with fail
  refine (conv_any 30 (fun x => w1.heap.size ≤ x) t (.slice a2 t.args.length cap2) w2 HFT.out HT.out).mono ?_
  rintro r w3 ⟨hb3, x3, rfl, hr3⟩
  obtain ⟨a3, cap3, rfl⟩ := hr3.shape
  have HM3 := Lib.hid (more_trans HM2.out (more_of hb3))
  have HT3 := Lib.hid (show RepS .u8 (fun _ => True) w3 30 t.args (.slice a3 t.args.length cap3) from hr3.mono (fun _ _ => trivial) (fun _ _ _ _ h => h) (Nat.le_refl _))
  clear hb3 hr3
  unfold agg
  have hy3 := (HM3.out.block hs0).trans HX0.out
  have hlt3 : w.heap.size < w3.heap.size := Nat.lt_of_lt_of_le hs0 HM3.out.size
  have e0 : w3.cell? ⟨w.heap.size, 0, none⟩ = some c1 := by simp [World.cell?, hy3]
  have e1 : w3.cell? ⟨w.heap.size, 1, none⟩ = some c2 := by simp [World.cell?, hy3]
  have e2 : w3.cell? ⟨w.heap.size, 2, none⟩ = some c3 := by simp [World.cell?, hy3]
  have e3 : w3.cell? ⟨w.heap.size, 3, none⟩ = some c4 := by simp [World.cell?, hy3]
  have e4 : w3.cell? ⟨w.heap.size, 4, none⟩ = some (.int .i64 e.now) := by simp [World.cell?, hy3]
  clear hy3 hs0
  go_wp2_with fail
  clear e0 e1 e2 e3 e4
  generalize hw4 : w3.alloc (.cells #[.int .u8 t.op, .string t.name, .int .i64 t.n, .slice a3 t.args.length cap3] 41) = w4
  have hm4 : More w3 w4 := by rw [← hw4]; exact World.grownBy_alloc _ _ _
  have hx4 : w4.heap[w3.heap.size]? = some (.cells #[.int .u8 t.op, .string t.name, .int .i64 t.n, .slice a3 t.args.length cap3] 41) := by rw [← hw4]; exact alloc_last _ _
  have hs4 : w3.heap.size < w4.heap.size := by rw [← hw4]; simp
  clear hw4
  have HM4 := Lib.hid (more_trans (more_trans HM0.out HM3.out) hm4)
  have HT4 := Lib.hid (HT3.out.below hm4.below)
  have HX4 := Lib.hid (And.intro hx4 hs4)
  clear hm4 hx4 hs4 hlt3
  refine (small_any (fun _ => True) e c1 c2 c3 c4 w4 (HE.out.more HM4.out)).mono ?_
  rintro r w5 ⟨hb5, d1, d2, d3, d4, rfl, hr5⟩
  have HM5 := Lib.hid (more_of hb5)
  have HR5 := Lib.hid hr5
  have H16 := Lib.hid (show ∀ t ∈ (smallE e).tabs, t.length ≤ 20 from fun t ht => by
    obtain ⟨y, _, rfl⟩ := List.mem_map.1 ht
    rw [List.length_take]; omega)
  have HTX := Lib.hid (show (∀ x ∈ (smallE e).names, x.size ≤ maxLen) ∧ ∀ x ∈ (smallE e).tnames, x.size ≤ maxLen from ⟨fun x hx => HE.out.text.1 x (List.mem_of_mem_take hx), fun x hx => HE.out.text.2 x (List.mem_of_mem_take hx)⟩)
  have hnow : (smallE e).now = e.now := rfl
  have HNOW := Lib.hid hnow
  clear hb5 hr5 hnow
  unfold aggE
  rw [HNOW.out]
  generalize smallE e = s at *
  obtain ⟨p1, q1, rfl, _⟩ := HR5.out.names.shape
  obtain ⟨p2, q2, rfl, _⟩ := HR5.out.vals.shape
  obtain ⟨p3, q3, rfl, _⟩ := HR5.out.tnames.shape
  obtain ⟨p4, q4, rfl, _⟩ := HR5.out.tabs.choose_spec.1.shape
  have HC52 := Lib.hid (show Calls Try.prog 52 #[.agg #[.slice p1 s.names.length q1, .slice p2 s.vals.length q2, .slice p3 s.tnames.length q3, .slice p4 s.tabs.length q4, .int .i64 e.now]] w5 fun r w'' => More w5 w'' ∧ ∃ da dc, r = .returned (.agg #[.slice p1 s.names.length q1, .slice p2 s.vals.length q2, .slice p3 s.tnames.length q3, .slice da s.tabs.length dc, .int .i64 e.now]) ∧ EnvP (fun _ => True) w'' (progE s) (.slice p1 s.names.length q1) (.slice p2 s.vals.length q2) (.slice p3 s.tnames.length q3) (.slice da s.tabs.length dc) by
    have h := env_any _ s _ _ _ _ w5 HR5.out H16.out
    unfold aggE at h
    rw [HNOW.out] at h
    refine h.mono ?_
    rintro r w'' ⟨hb, d4', rfl, hr, ha⟩
    obtain ⟨da, dc, rfl, _⟩ := hr.tabs.choose_spec.1.shape
    have hlen : (progE s).tabs.length = s.tabs.length := by simp [progE]
    rw [hlen] at hr
    refine ⟨more_of hb, da, dc, ?_, ⟨hr, ha, HTX.out⟩⟩
    rw [hlen]
    have : (progE s).now = e.now := HNOW.out
    rw [this])
  go_wp2_with fail
  refine HC52.out.mono ?_
  rintro r w6 ⟨hm6, da, dc, rfl, hp6⟩
  have HM6 := Lib.hid (more_trans HM5.out hm6)
  have HP6 := Lib.hid hp6
  clear hm6 hp6 HC52
  have hx6 := (HM6.out.block HX4.out.2).trans HX4.out.1
  have hs6 : w3.heap.size < w6.heap.size := Nat.lt_of_lt_of_le HX4.out.2 HM6.out.size
  have g0 : w6.cell? ⟨w3.heap.size, 0, none⟩ = some (.int .u8 t.op) := by simp [World.cell?, hx6]
  have g1 : w6.cell? ⟨w3.heap.size, 1, none⟩ = some (.string t.name) := by simp [World.cell?, hx6]
  have g2 : w6.cell? ⟨w3.heap.size, 2, none⟩ = some (.int .i64 t.n) := by simp [World.cell?, hx6]
  have g3 : w6.cell? ⟨w3.heap.size, 3, none⟩ = some (.slice a3 t.args.length cap3) := by simp [World.cell?, hx6]
  have HX6 := Lib.hid hx6
  clear hx6
  go_wp2_with fail
  clear g0 g1 g2 g3
  generalize hw7 : w6.alloc (.cells #[.slice p1 s.names.length q1, .slice p2 s.vals.length q2, .slice p3 s.tnames.length q3, .slice da s.tabs.length dc, .int .i64 e.now] 97) = w7
  have hm7 : More w6 w7 := by rw [← hw7]; exact World.grownBy_alloc _ _ _
  have hx7 : w7.heap[w6.heap.size]? = some (.cells #[.slice p1 s.names.length q1, .slice p2 s.vals.length q2, .slice p3 s.tnames.length q3, .slice da s.tabs.length dc, .int .i64 e.now] 97) := by rw [← hw7]; exact alloc_last _ _
  have hs7 : w6.heap.size < w7.heap.size := by rw [← hw7]; simp
  clear hw7
  have HX7 := Lib.hid (And.intro hx7 (And.intro ((hm7.block hs6).trans HX6.out) hs7))
  have HT7 := Lib.hid (HT4.out.below (more_trans HM6.out hm7).below)
  have HP7 := Lib.hid (HP6.out.below hm7.below)
  have HM7 := Lib.hid (more_trans HM4.out (more_trans HM6.out hm7))
  clear hm7 hx7 hs7
  refine (Fold_any 30 (fun _ => True) t (.slice a3 t.args.length cap3) w7 (Flds.u8 HFT.out) HT7.out).mono ?_
  rintro r w8 ⟨hb8, D8, x8, rfl, hf8, hr8⟩
  obtain ⟨a8, cap8, rfl⟩ := hr8.shape
  have HM8 := Lib.hid (more_of hb8)
  have HF8 := Lib.hid hf8
  have HR8 := Lib.hid (hr8.mono (S' := fun _ => True) (fun _ _ => trivial) (fun _ _ _ _ h => h) (Nat.le_refl _))
  clear hb8 hf8 hr8
  have HC51 := Lib.hid (fun (u : Ex) (D : Nat) (w' : World) (S : Nat → Prop) (x6 : Option Addr) (y6 : Nat) (hf : Flds .u8 u) (hr : RepS .u8 S w' D u.args (.slice x6 u.args.length y6)) (hp : EnvP (fun _ => True) w' (progE s) (.slice p1 s.names.length q1) (.slice p2 s.vals.length q2) (.slice p3 s.tnames.length q3) (.slice da s.tabs.length dc)) =>
    show Calls Try.prog 51 #[.agg #[.int .u8 u.op, .string u.name, .int .i64 u.n, .slice x6 u.args.length y6], .agg #[.slice p1 s.names.length q1, .slice p2 s.vals.length q2, .slice p3 s.tnames.length q3, .slice da s.tabs.length dc, .int .i64 e.now]] w' fun r w'' => More w' w'' ∧ r = .returned (.tuple #[.int .i64 (evalV s u).1, .int .i64 (evalV s u).2]) by
    have h := eval_any D S (fun _ => True) u (.slice x6 u.args.length y6) (progE s) _ _ _ _ w' hf hr hp
    unfold agg aggE at h
    rw [show (progE s).now = e.now from HNOW.out, evalV_prog] at h
    exact h.mono fun r w'' ⟨h1, h2⟩ => ⟨more_of h1, h2⟩)
  have HC51t := Lib.hid (fun (w' : World) (S : Nat → Prop) (D : Nat) (x6 : Option Addr) (y6 : Nat) => HC51.out t D w' S x6 y6 (Flds.u8 HFT.out))
  have HC51g := Lib.hid (fun (w' : World) (S : Nat → Prop) (D : Nat) (x6 : Option Addr) (y6 : Nat) => HC51.out (foldTop t) D w' S x6 y6 HF8.out)
  rw [top_keeps s t HNUM.out] at HC51g
  have HC26 := Lib.hid (fun (w' : World) (S : Nat → Prop) (D : Nat) (x6 : Option Addr) (y6 : Nat) (hr : RepS .u8 S w' D (foldTop t).args (.slice x6 (foldTop t).args.length y6)) =>
    show Calls Try.prog 26 #[.agg #[.int .u8 (foldTop t).op, .string (foldTop t).name, .int .i64 (foldTop t).n, .slice x6 (foldTop t).args.length y6]] w' fun r w'' => More w' w'' ∧ ∃ D' x7 y7, r = .returned (.agg #[.int .u8 (foldTop t).op, .string (foldTop t).name, .int .i64 (foldTop t).n, .slice x7 (foldTop t).args.length y7]) ∧ RepS .u8 (fun _ => True) w'' D' (foldTop t).args (.slice x7 (foldTop t).args.length y7) by
    have h := Fold_any D S (foldTop t) (.slice x6 (foldTop t).args.length y6) w' HF8.out hr
    unfold FoldTopPost at h
    rw [top_twice t HNUM.out] at h
    unfold agg at h
    refine h.mono ?_
    rintro r w'' ⟨hb, D', c', rfl, _, hr'⟩
    obtain ⟨x7, y7, rfl⟩ := hr'.shape
    exact ⟨more_of hb, D', x7, y7, rfl, hr'.mono (fun _ _ => trivial) (fun _ _ _ _ h => h) (Nat.le_refl _)⟩)
  generalize foldTop t = g at *
  generalize evalV s t = V at *
  clear HC51
  unfold agg
  have hx8 := (HM8.out.block (b := w6.heap.size) HX7.out.2.2).trans HX7.out.1
  have hy8 := (HM8.out.block (b := w3.heap.size) (by have := HX7.out.2.2; omega)).trans HX7.out.2.1
  have hs8 : w6.heap.size < w8.heap.size := Nat.lt_of_lt_of_le HX7.out.2.2 HM8.out.size
  have hs83 : w3.heap.size < w8.heap.size := by omega
  have g0 : w8.cell? ⟨w3.heap.size, 0, none⟩ = some (.int .u8 t.op) := by simp [World.cell?, hy8]
  have g1 : w8.cell? ⟨w3.heap.size, 1, none⟩ = some (.string t.name) := by simp [World.cell?, hy8]
  have g2 : w8.cell? ⟨w3.heap.size, 2, none⟩ = some (.int .i64 t.n) := by simp [World.cell?, hy8]
  have g3 : w8.cell? ⟨w3.heap.size, 3, none⟩ = some (.slice a3 t.args.length cap3) := by simp [World.cell?, hy8]
  have h0 : w8.cell? ⟨w6.heap.size, 0, none⟩ = some (.slice p1 s.names.length q1) := by simp [World.cell?, hx8]
  have h1 : w8.cell? ⟨w6.heap.size, 1, none⟩ = some (.slice p2 s.vals.length q2) := by simp [World.cell?, hx8]
  have h2 : w8.cell? ⟨w6.heap.size, 2, none⟩ = some (.slice p3 s.tnames.length q3) := by simp [World.cell?, hx8]
  have h3 : w8.cell? ⟨w6.heap.size, 3, none⟩ = some (.slice da s.tabs.length dc) := by simp [World.cell?, hx8]
  have h4 : w8.cell? ⟨w6.heap.size, 4, none⟩ = some (.int .i64 e.now) := by simp [World.cell?, hx8]
  clear hx8 hy8
  go_wp2_with fail
  generalize hw9 : w8.alloc (.cells #[.int .u8 g.op, .string g.name, .int .i64 g.n, .slice a8 g.args.length cap8] 41) = w9
  have hm9 : More w8 w9 := by rw [← hw9]; exact World.grownBy_alloc _ _ _
  have hx9 : w9.heap[w8.heap.size]? = some (.cells #[.int .u8 g.op, .string g.name, .int .i64 g.n, .slice a8 g.args.length cap8] 41) := by rw [← hw9]; exact alloc_last _ _
  have hs9 : w8.heap.size < w9.heap.size := by rw [← hw9]; simp
  clear hw9
  have HM79 := Lib.hid (more_trans HM8.out hm9)
  have HM9 := Lib.hid (more_trans HM7.out HM79.out)
  refine (HC51t.out w9 _ 30 a3 cap3 (HT7.out.below HM79.out.below) (HP7.out.below HM79.out.below)).mono ?_
  rintro r wa ⟨hma, rfl⟩
  have hmm : More w8 wa := more_trans hm9 hma
  have xa := (hma.block hs9).trans hx9
  have g0 := hmm.cell g0
  have g1 := hmm.cell g1
  have g2 := hmm.cell g2
  have g3 := hmm.cell g3
  have h0 := hmm.cell h0
  have h1 := hmm.cell h1
  have h2 := hmm.cell h2
  have h3 := hmm.cell h3
  have h4 := hmm.cell h4
  have k0 : wa.cell? ⟨w8.heap.size, 0, none⟩ = some (.int .u8 g.op) := by simp [World.cell?, xa]
  have k1 : wa.cell? ⟨w8.heap.size, 1, none⟩ = some (.string g.name) := by simp [World.cell?, xa]
  have k2 : wa.cell? ⟨w8.heap.size, 2, none⟩ = some (.int .i64 g.n) := by simp [World.cell?, xa]
  have k3 : wa.cell? ⟨w8.heap.size, 3, none⟩ = some (.slice a8 g.args.length cap8) := by simp [World.cell?, xa]
  have HRA := Lib.hid (HR8.out.below hmm.below)
  have HM7a := Lib.hid (more_trans HM79.out hma)
  have HMa := Lib.hid (more_trans HM9.out hma)
  clear hm9 hx9 hs9 hma hmm xa hs8 hs83
  go_wp2_with fail
  refine (HC51g.out wa _ D8 a8 cap8 HRA.out (HP7.out.below HM7a.out.below)).mono ?_
  rintro r wb ⟨hmb, rfl⟩
  have g0 := hmb.cell g0
  have g1 := hmb.cell g1
  have g2 := hmb.cell g2
  have g3 := hmb.cell g3
  have k0 := hmb.cell k0
  have k1 := hmb.cell k1
  have k2 := hmb.cell k2
  have k3 := hmb.cell k3
  have HRB := Lib.hid (HRA.out.below hmb.below)
  have HTB := Lib.hid (HT7.out.below (more_trans HM7a.out hmb).below)
  have HMb := Lib.hid (more_trans HMa.out hmb)
  clear hmb h0 h1 h2 h3 h4
  go_wp2_with fail
  have v1 : (V.1 == V.1) = true := by simp
  have v2 : (V.2 == V.2) = true := by simp
  have s0 : wb.drew.cell? ⟨w3.heap.size, 0, none⟩ = some (.int .u8 t.op) := g0
  have s1 : wb.drew.cell? ⟨w3.heap.size, 1, none⟩ = some (.string t.name) := g1
  have s2 : wb.drew.cell? ⟨w3.heap.size, 2, none⟩ = some (.int .i64 t.n) := g2
  have s3 : wb.drew.cell? ⟨w3.heap.size, 3, none⟩ = some (.slice a3 t.args.length cap3) := g3
  have y0 : wb.drew.cell? ⟨w8.heap.size, 0, none⟩ = some (.int .u8 g.op) := k0
  have y1 : wb.drew.cell? ⟨w8.heap.size, 1, none⟩ = some (.string g.name) := k1
  have y2 : wb.drew.cell? ⟨w8.heap.size, 2, none⟩ = some (.int .i64 g.n) := k2
  have y3 : wb.drew.cell? ⟨w8.heap.size, 3, none⟩ = some (.slice a8 g.args.length cap8) := k3
  clear g0 g1 g2 g3 k0 k1 k2 k3
  have HM0d := Lib.hid (show More wb wb.drew from more_drew wb)
  have HRBd := Lib.hid (HRB.out.below HM0d.out.below)
  have HTBd := Lib.hid (HTB.out.below HM0d.out.below)
  have HC25g := Lib.hid (fun (w' : World) (hm : More wb.drew w') (D' : Nat) (x7 : Option Addr) (y7 : Nat) (hr : RepS .u8 (fun _ => True) w' D' g.args (.slice x7 g.args.length y7)) =>
    show Calls Try.prog 25 #[.agg #[.int .u8 g.op, .string g.name, .int .i64 g.n, .slice x7 g.args.length y7], .agg #[.int .u8 g.op, .string g.name, .int .i64 g.n, .slice a8 g.args.length cap8]] w' fun r w'' => More w' w'' ∧ r = .returned (.bool true) by
    have h := equal_any D' (fun _ => True) (fun _ => True) D8 g (.slice x7 g.args.length y7) (.slice a8 g.args.length cap8) w' HF8.out hr (HRBd.out.below hm.below)
    unfold agg at h
    exact h.mono fun r w'' ⟨h1, h2⟩ => ⟨more_of h2, h1⟩)
  have HC25t := Lib.hid (fun (w' : World) (hm : More wb.drew w') (x7 : Option Addr) (y7 : Nat) (hr : RepS .u8 (fun _ => True) w' 30 t.args (.slice x7 t.args.length y7)) =>
    show Calls Try.prog 25 #[.agg #[.int .u8 t.op, .string t.name, .int .i64 t.n, .slice a3 t.args.length cap3], .agg #[.int .u8 t.op, .string t.name, .int .i64 t.n, .slice x7 t.args.length y7]] w' fun r w'' => More w' w'' ∧ r = .returned (.bool true) by
    have h := equal_any 30 (fun _ => True) (fun _ => True) 30 t (.slice a3 t.args.length cap3) (.slice x7 t.args.length y7) w' (Flds.u8 HFT.out) (HTBd.out.below hm.below) hr
    unfold agg at h
    exact h.mono fun r w'' ⟨h1, h2⟩ => ⟨more_of h2, h1⟩)
  have HC24b := Lib.hid (fun (w' : World) (hm : More wb.drew w') => HC24.out w' (more_trans HMb.out (more_trans HM0d.out hm)))
  have HC27b := Lib.hid (fun (w' : World) (S : Nat → Prop) (x7 : Option Addr) (y7 : Nat) (hr : RepS .i64 S w' 30 t.args (.slice x7 t.args.length y7)) => conv_any 30 S t (.slice x7 t.args.length y7) w' HFT.out hr)
  unfold agg at HC24b HC27b
  go_region_held3 (fun wx => (wx.cell? ⟨w3.heap.size, 0, none⟩ = some (.int .u8 t.op) ∧ wx.cell? ⟨w3.heap.size, 1, none⟩ = some (.string t.name) ∧ wx.cell? ⟨w3.heap.size, 2, none⟩ = some (.int .i64 t.n) ∧ wx.cell? ⟨w3.heap.size, 3, none⟩ = some (.slice a3 t.args.length cap3)) ∧ wx.cell? ⟨w8.heap.size, 0, none⟩ = some (.int .u8 g.op) ∧ wx.cell? ⟨w8.heap.size, 1, none⟩ = some (.string g.name) ∧ wx.cell? ⟨w8.heap.size, 2, none⟩ = some (.int .i64 g.n) ∧ wx.cell? ⟨w8.heap.size, 3, none⟩ = some (.slice a8 g.args.length cap8)) (first | with_reducible exact ⟨⟨s0, s1, s2, s3⟩, y0, y1, y2, y3⟩ | with_reducible exact ⟨⟨ka0, ka1, ka2, ka3⟩, la0, la1, la2, la3⟩ | with_reducible exact ⟨⟨kb0, kb1, kb2, kb3⟩, lb0, lb1, lb2, lb3⟩ | with_reducible exact ⟨⟨kc0, kc1, kc2, kc3⟩, lc0, lc1, lc2, lc3⟩ | with_reducible exact ⟨⟨kd0, kd1, kd2, kd3⟩, ld0, ld1, ld2, ld3⟩ | with_reducible exact ⟨⟨ke0, ke1, ke2, ke3⟩, le0, le1, le2, le3⟩) (first | (go_at_call 26; refine (HC26.out wb.drew _ D8 a8 cap8 HRBd.out).mono ?_; rintro r wc ⟨hmc, D9, x9, y9, rfl, hr9⟩; have ka0 := hmc.cell s0; have ka1 := hmc.cell s1; have ka2 := hmc.cell s2; have ka3 := hmc.cell s3; have la0 := hmc.cell y0; have la1 := hmc.cell y1; have la2 := hmc.cell y2; have la3 := hmc.cell y3) | (go_at_call_of 25 x9; refine (HC25g.out wc hmc D9 x9 y9 hr9).mono ?_; rintro r wd ⟨hmd, rfl⟩; have hmcd : More wb.drew wd := more_trans hmc hmd; have kb0 := hmcd.cell s0; have kb1 := hmcd.cell s1; have kb2 := hmcd.cell s2; have kb3 := hmcd.cell s3; have lb0 := hmcd.cell y0; have lb1 := hmcd.cell y1; have lb2 := hmcd.cell y2; have lb3 := hmcd.cell y3) | (go_at_call 24; refine (HC24b.out wd hmcd).mono ?_; rintro r we ⟨hbe, xe, rfl, _, hre⟩; obtain ⟨ae, cape, rfl⟩ := hre.shape; have hmce : More wb.drew we := more_trans hmcd (more_of hbe); have kc0 := hmce.cell s0; have kc1 := hmce.cell s1; have kc2 := hmce.cell s2; have kc3 := hmce.cell s3; have lc0 := hmce.cell y0; have lc1 := hmce.cell y1; have lc2 := hmce.cell y2; have lc3 := hmce.cell y3) | (go_at_call 27; refine (HC27b.out we _ ae cape hre).mono ?_; rintro r wf ⟨hbf, xf, rfl, hrf⟩; obtain ⟨af, capf, rfl⟩ := hrf.shape; have hmcf : More wb.drew wf := more_trans hmce (more_of hbf); have kd0 := hmcf.cell s0; have kd1 := hmcf.cell s1; have kd2 := hmcf.cell s2; have kd3 := hmcf.cell s3; have ld0 := hmcf.cell y0; have ld1 := hmcf.cell y1; have ld2 := hmcf.cell y2; have ld3 := hmcf.cell y3) | (go_at_call_of 25 af; refine (HC25t.out wf hmcf af capf (hrf.mono (fun _ _ => trivial) (fun _ _ _ _ h => h) (Nat.le_refl _))).mono ?_; rintro r wg ⟨hmg, rfl⟩; have hmcg : More wb.drew wg := more_trans hmcf hmg; have ke0 := hmcg.cell s0; have ke1 := hmcg.cell s1; have ke2 := hmcg.cell s2; have ke3 := hmcg.cell s3; have le0 := hmcg.cell y0; have le1 := hmcg.cell y1; have le2 := hmcg.cell y2; have le3 := hmcg.cell y3))
  have HMg := Lib.hid (more_trans HMb.out (more_trans HM0d.out hmcg))
  go_wp2_with fail
  go_ret
  exact ⟨rfl, HMg.out.below⟩

theorem oks : Try.f15.params.toList.all (fun t => Try.prog.readableRec t && decide (t < Try.prog.types.size)) = true := by kernel_rfl
theorem oks' : ∀ t ∈ Try.f15.params.toList, Try.prog.readableRec t = true ∧ t < Try.prog.types.size := fun t ht => by
  have h := List.all_eq_true.1 oks t ht
  rw [Bool.and_eq_true, decide_eq_true_eq] at h
  exact h
theorem kInPlace : (Rows.exprKeepsRow.inPlace == Try.prog.inPlace 15) = true := by kernel_rfl
theorem kUnf : (Rows.exprKeepsRow.unfollowed == Try.prog.unfollowed 15) = true := by kernel_rfl
theorem kRec : (Rows.exprKeepsRow.recurses == Try.prog.recurses 15) = true := by kernel_rfl
theorem kNamed : (Rows.exprKeepsRow.named == Try.prog.varsNamed 15) = true := by kernel_rfl
theorem closed : joinedFacts Try.prog 15 Try.f15 Rows.exprKeepsSpec Rows.exprKeepsRow = true :=
  closed_of (by as_aux_lemma => kernel_rfl) kLaid kMaps (by as_aux_lemma => kernel_rfl) (by as_aux_lemma => kernel_rfl) rfl kStops rfl kKnobs kInPlace kUnf kRec kNamed
    (by as_aux_lemma => kernel_rfl) (by as_aux_lemma => kernel_rfl) (by as_aux_lemma => kernel_rfl) (by as_aux_lemma => kernel_rfl) (by as_aux_lemma => kernel_rfl) rfl (by as_aux_lemma => kernel_rfl) (by as_aux_lemma => kernel_rfl) (by as_aux_lemma => kernel_rfl)
    kKeys rfl kHeard kEnter kLift kMake ⟨rfl, rfl⟩ rfl (by as_aux_lemma => kernel_rfl) (by as_aux_lemma => kernel_rfl)

set_option maxRecDepth 100000 in
theorem lifted (os : Os) (started : os.Started) (H : Type) (enc : TypeId × Value → H) :
    ReturnsInHanded {} Try.checked os 15 .any (Rows.exprKeepsSpec.pre6 enc Try.prog Try.f15 Rows.exprKeepsRow.domain false) (Rows.exprKeepsSpec.post enc Try.prog Try.f15 false true false false) := by
  refine returnsInHanded_of_change (C := Try.checked) kOwn started (by kernel_rfl) Try.func15
    (ChangeSpec.witness6 (enc := enc) (C := Try.checked) false ⟨#[], #[.slice none 0 0, .agg #[.slice none 0 0, .slice none 0 0, .slice none 0 0, .slice none 0 0, .int .i64 0]], []⟩ 8 (by kernel_rfl) (by kernel_rfl) (by kernel_rfl) (by kernel_rfl)) ?_
  intro W base args ds gs before hval0 hW hcnd _
  have hval : ∀ (j : Nat) t v, Try.f15.params[j]? = some t → args[j]? = some v → Value.okWide Try.prog W .any base t v := hval0
  have hW' := hW
  obtain ⟨p, q, hA0, hV, rfl, hfz, hnd⟩ := hW
  have hA : DataW.TrodAll enc Try.prog W 0 (fun _ => true) true Try.f15.params.toList args.toList ds p := hA0
  rw [Try.params15] at hA hval
  obtain ⟨v0, vs0, d0, ds0, p0, q0, hargs, rfl, rfl, h0, r0⟩ := trodAll_cons hA
  obtain ⟨v1, vs1, d1, ds1, p1, q1, rfl, rfl, rfl, h1, r1⟩ := trodAll_cons r0
  obtain ⟨rfl, rfl, rfl⟩ := trodAll_nil r1
  obtain rfl : args = #[v0, v1] := by cases args; simp_all
  obtain ⟨rfl, rfl⟩ := trodVars_none hV
  obtain ⟨xs, hok, hxl, hrow⟩ := open_rows cells5 Nd.Ok 5 (fun _ => rfl) (by omega) Try.underlying33 cells208 node_elem (okWide_slice Try.underlying33 (hval 0 33 v0 rfl rfl)) h0
  rw [flat5_eq] at hrow
  obtain ⟨e, c1, c2, c3, c4, rfl, hE⟩ := open_env (hval 1 93 v1 rfl rfl) h1
  refine (walk xs v0 e c1 c2 c3 c4 W hxl hok hrow hE).mono fun e W' ⟨he, hb⟩ => ?_
  subst he
  exact ⟨_, rfl, law_post kLaid oks' rfl rfl Try.underlying4 hW' rfl rfl rfl hb⟩

theorem over : Rows.exprKeepsRow.holds Try.pinned (OpenSpec.ofChange Rows.exprKeepsSpec) :=
  OpenClaim.holds_of_wide 15 Try.f15 rfl rfl rfl rfl rfl rfl rfl ⟨rfl, rfl, rfl, rfl, rfl⟩ rfl rfl rfl rfl rfl (by as_aux_lemma => kernel_rfl) Try.func15 closed
    (of_decide_eq_true (by as_aux_lemma => kernel_rfl)) (by unfold Func.isWrapper; first | (rw [if_pos (by decide +kernel)]; kernel_rfl) | (rw [if_neg (by decide +kernel)]; exact ⟨rfl, rfl⟩))
    (fun os started H enc _ => lifted os started H enc)

theorem proved : Rows.ExprKeepsSaid :=
  over
end Go.Proofs.Ytekhoanjpnjaeaa.exprKeeps
