/- Texts SortK, laid together. -/
import Derived.Test.YtemeppfikpafbaaRg
/- The reference's orders (70, 117) and its sorted lists (64, 65). -/
namespace Go.Proofs.Ytemeppfikpafbaa
open Go.RowKit
def ltM (x y : M3) : Prop := x.f < y.f ∨ (x.f = y.f ∧ (x.t < y.t ∨ (x.t = y.t ∧ x.n < y.n)))
instance (x y : M3) : Decidable (ltM x y) := by unfold ltM; infer_instance
def ltMb (x y : M3) : Bool := decide (ltM x y)
theorem ltMb_iff (x y : M3) : ltMb x y = true ↔ ltM x y := by unfold ltMb; exact decide_eq_true_iff
theorem ltM_irrefl (x : M3) : ¬ ltM x x := by unfold ltM; omega
theorem ltM_trans {x y z : M3} (h : ltM x y) (h' : ltM y z) : ltM x z := by unfold ltM at *; omega
theorem ltM_tri {x y : M3} (h : ¬ ltM x y) (h' : ¬ ltM y x) : x = y := by
  obtain ⟨a, b, c⟩ := x
  obtain ⟨a', b', c'⟩ := y
  unfold ltM at h h'
  simp only at h h'
  have h1 : a = a' := by omega
  have h2 : b = b' := by omega
  have h3 : c = c' := by omega
  rw [h1, h2, h3]
theorem insS_le {α : Type} [DecidableEq α] (lt : α → α → Bool) (k : α) : ∀ l : List α, (insS lt k l).length ≤ l.length + 1
  | [] => by simp [insS]
  | x :: r => by
    have := insS_le lt k r
    unfold insS
    split
    · simp
    · split
      · simp
      · simp only [List.length_cons]; omega
theorem sortS_le {α : Type} [DecidableEq α] (lt : α → α → Bool) (l : List α) : (sortS lt l).length ≤ l.length := by
  have h : ∀ (l out : List α), (l.foldl (fun out k => insS lt k out) out).length ≤ out.length + l.length := by
    intro l
    induction l with
    | nil => intro out; simp
    | cons k r ih => intro out; have h1 := ih (insS lt k out); have h2 := insS_le lt k out; simp only [List.foldl_cons, List.length_cons]; omega
  have := h l []
  unfold sortS
  simpa using this
theorem stS_le {α : Type} [DecidableEq α] (lt : α → α → Bool) (k : α) : ∀ (l : List α) (s : List α × Bool), (l.foldl (stS lt k) s).1.length ≤ s.1.length + 2 * l.length
  | [], s => by simp
  | x :: r, s => by
    have h1 := stS_le lt k r (stS lt k s x)
    have h2 : (stS lt k s x).1.length ≤ s.1.length + 2 := by
      unfold stS
      split
      · simp
      · split <;> simp
    simp only [List.foldl_cons, List.length_cons]; omega
theorem owns_base {w : World} {B B' : Nat} {e : TypeId} {n size : Nat} {v : Value} {xs : List Value} (h : w.ownsRow B e size v n xs) (hB : B' ≤ B) : w.ownsRow B' e size v n xs := by
  obtain ⟨hl, h | ⟨g, cap, cur, rfl, hg, r⟩⟩ := h
  · exact ⟨hl, Or.inl h⟩
  · exact ⟨hl, Or.inr ⟨g, cap, cur, rfl, Nat.le_trans hB hg, r⟩⟩
set_option maxRecDepth 100000 in
theorem lessK_ref (x y : K4) (w : World) : Calls Try.prog 70 #[.agg #[.int .u8 x.kind, .int .i64 x.a, .int .i64 x.b, .int .i64 x.n], .agg #[.int .u8 y.kind, .int .i64 y.a, .int .i64 y.b, .int .i64 y.n]] w fun e w' => e = .returned (.bool (ltKb x y)) ∧ Lay w w' := by
  obtain ⟨xkind, xa, xb, xn⟩ := x
  obtain ⟨ykind, ya, yb, yn⟩ := y
  dsimp only
  by_cases hkind : xkind = ykind
  · subst hkind
    by_cases ha : xa = ya
    · subst ha
      by_cases hb : xb = yb
      · subst hb
        have e : ltKb ⟨xkind, xa, xb, xn⟩ ⟨xkind, xa, xb, yn⟩ = decide (xn < yn) := by unfold ltKb; rw [Bool.eq_iff_iff, decide_eq_true_iff, decide_eq_true_iff]; unfold ltK; dsimp only; omega
        rw [e]
        clear e
        go_enter Try.func70, Try.ntmps70
        go_wp2_with fail
        obtain ⟨ha, hb, hm⟩ := boxed2 w (.cells #[.int .u8 xkind, .int .i64 xa, .int .i64 xb, .int .i64 xn] 48) (.cells #[.int .u8 xkind, .int .i64 xa, .int .i64 xb, .int .i64 yn] 48)
        generalize (w.alloc (.cells #[.int .u8 xkind, .int .i64 xa, .int .i64 xb, .int .i64 xn] 48)).alloc (.cells #[.int .u8 xkind, .int .i64 xa, .int .i64 xb, .int .i64 yn] 48) = w2 at *
        have a0 : w2.cell? ⟨w.heap.size, 0, none⟩ = some (.int .u8 xkind) := cell_of_blk ha rfl
        have a1 : w2.cell? ⟨w.heap.size, 1, none⟩ = some (.int .i64 xa) := cell_of_blk ha rfl
        have a2 : w2.cell? ⟨w.heap.size, 2, none⟩ = some (.int .i64 xb) := cell_of_blk ha rfl
        have a3 : w2.cell? ⟨w.heap.size, 3, none⟩ = some (.int .i64 xn) := cell_of_blk ha rfl
        have b0 : w2.cell? ⟨w.heap.size + 1, 0, none⟩ = some (.int .u8 xkind) := cell_of_blk hb rfl
        have b1 : w2.cell? ⟨w.heap.size + 1, 1, none⟩ = some (.int .i64 xa) := cell_of_blk hb rfl
        have b2 : w2.cell? ⟨w.heap.size + 1, 2, none⟩ = some (.int .i64 xb) := cell_of_blk hb rfl
        have b3 : w2.cell? ⟨w.heap.size + 1, 3, none⟩ = some (.int .i64 yn) := cell_of_blk hb rfl
        have HM := Lib.hid hm
        clear ha hb hm
        go_wp2_with fail
        go_ret
        exact ⟨rfl, HM.out⟩
      · skip
        have e : ltKb ⟨xkind, xa, xb, xn⟩ ⟨xkind, xa, yb, yn⟩ = decide (xb < yb) := by unfold ltKb; rw [Bool.eq_iff_iff, decide_eq_true_iff, decide_eq_true_iff]; unfold ltK; dsimp only; omega
        rw [e]
        clear e
        go_enter Try.func70, Try.ntmps70
        go_wp2_with fail
        obtain ⟨ha, hb, hm⟩ := boxed2 w (.cells #[.int .u8 xkind, .int .i64 xa, .int .i64 xb, .int .i64 xn] 48) (.cells #[.int .u8 xkind, .int .i64 xa, .int .i64 yb, .int .i64 yn] 48)
        generalize (w.alloc (.cells #[.int .u8 xkind, .int .i64 xa, .int .i64 xb, .int .i64 xn] 48)).alloc (.cells #[.int .u8 xkind, .int .i64 xa, .int .i64 yb, .int .i64 yn] 48) = w2 at *
        have a0 : w2.cell? ⟨w.heap.size, 0, none⟩ = some (.int .u8 xkind) := cell_of_blk ha rfl
        have a1 : w2.cell? ⟨w.heap.size, 1, none⟩ = some (.int .i64 xa) := cell_of_blk ha rfl
        have a2 : w2.cell? ⟨w.heap.size, 2, none⟩ = some (.int .i64 xb) := cell_of_blk ha rfl
        have a3 : w2.cell? ⟨w.heap.size, 3, none⟩ = some (.int .i64 xn) := cell_of_blk ha rfl
        have b0 : w2.cell? ⟨w.heap.size + 1, 0, none⟩ = some (.int .u8 xkind) := cell_of_blk hb rfl
        have b1 : w2.cell? ⟨w.heap.size + 1, 1, none⟩ = some (.int .i64 xa) := cell_of_blk hb rfl
        have b2 : w2.cell? ⟨w.heap.size + 1, 2, none⟩ = some (.int .i64 yb) := cell_of_blk hb rfl
        have b3 : w2.cell? ⟨w.heap.size + 1, 3, none⟩ = some (.int .i64 yn) := cell_of_blk hb rfl
        have HM := Lib.hid hm
        clear ha hb hm
        go_wp2_with fail
        go_ret
        exact ⟨rfl, HM.out⟩
    · skip
      have e : ltKb ⟨xkind, xa, xb, xn⟩ ⟨xkind, ya, yb, yn⟩ = decide (xa < ya) := by unfold ltKb; rw [Bool.eq_iff_iff, decide_eq_true_iff, decide_eq_true_iff]; unfold ltK; dsimp only; omega
      rw [e]
      clear e
      go_enter Try.func70, Try.ntmps70
      go_wp2_with fail
      obtain ⟨ha, hb, hm⟩ := boxed2 w (.cells #[.int .u8 xkind, .int .i64 xa, .int .i64 xb, .int .i64 xn] 48) (.cells #[.int .u8 xkind, .int .i64 ya, .int .i64 yb, .int .i64 yn] 48)
      generalize (w.alloc (.cells #[.int .u8 xkind, .int .i64 xa, .int .i64 xb, .int .i64 xn] 48)).alloc (.cells #[.int .u8 xkind, .int .i64 ya, .int .i64 yb, .int .i64 yn] 48) = w2 at *
      have a0 : w2.cell? ⟨w.heap.size, 0, none⟩ = some (.int .u8 xkind) := cell_of_blk ha rfl
      have a1 : w2.cell? ⟨w.heap.size, 1, none⟩ = some (.int .i64 xa) := cell_of_blk ha rfl
      have a2 : w2.cell? ⟨w.heap.size, 2, none⟩ = some (.int .i64 xb) := cell_of_blk ha rfl
      have a3 : w2.cell? ⟨w.heap.size, 3, none⟩ = some (.int .i64 xn) := cell_of_blk ha rfl
      have b0 : w2.cell? ⟨w.heap.size + 1, 0, none⟩ = some (.int .u8 xkind) := cell_of_blk hb rfl
      have b1 : w2.cell? ⟨w.heap.size + 1, 1, none⟩ = some (.int .i64 ya) := cell_of_blk hb rfl
      have b2 : w2.cell? ⟨w.heap.size + 1, 2, none⟩ = some (.int .i64 yb) := cell_of_blk hb rfl
      have b3 : w2.cell? ⟨w.heap.size + 1, 3, none⟩ = some (.int .i64 yn) := cell_of_blk hb rfl
      have HM := Lib.hid hm
      clear ha hb hm
      go_wp2_with fail
      go_ret
      exact ⟨rfl, HM.out⟩
  · skip
    have e : ltKb ⟨xkind, xa, xb, xn⟩ ⟨ykind, ya, yb, yn⟩ = decide (xkind < ykind) := by unfold ltKb; rw [Bool.eq_iff_iff, decide_eq_true_iff, decide_eq_true_iff]; unfold ltK; dsimp only; omega
    rw [e]
    clear e
    go_enter Try.func70, Try.ntmps70
    go_wp2_with fail
    obtain ⟨ha, hb, hm⟩ := boxed2 w (.cells #[.int .u8 xkind, .int .i64 xa, .int .i64 xb, .int .i64 xn] 48) (.cells #[.int .u8 ykind, .int .i64 ya, .int .i64 yb, .int .i64 yn] 48)
    generalize (w.alloc (.cells #[.int .u8 xkind, .int .i64 xa, .int .i64 xb, .int .i64 xn] 48)).alloc (.cells #[.int .u8 ykind, .int .i64 ya, .int .i64 yb, .int .i64 yn] 48) = w2 at *
    have a0 : w2.cell? ⟨w.heap.size, 0, none⟩ = some (.int .u8 xkind) := cell_of_blk ha rfl
    have a1 : w2.cell? ⟨w.heap.size, 1, none⟩ = some (.int .i64 xa) := cell_of_blk ha rfl
    have a2 : w2.cell? ⟨w.heap.size, 2, none⟩ = some (.int .i64 xb) := cell_of_blk ha rfl
    have a3 : w2.cell? ⟨w.heap.size, 3, none⟩ = some (.int .i64 xn) := cell_of_blk ha rfl
    have b0 : w2.cell? ⟨w.heap.size + 1, 0, none⟩ = some (.int .u8 ykind) := cell_of_blk hb rfl
    have b1 : w2.cell? ⟨w.heap.size + 1, 1, none⟩ = some (.int .i64 ya) := cell_of_blk hb rfl
    have b2 : w2.cell? ⟨w.heap.size + 1, 2, none⟩ = some (.int .i64 yb) := cell_of_blk hb rfl
    have b3 : w2.cell? ⟨w.heap.size + 1, 3, none⟩ = some (.int .i64 yn) := cell_of_blk hb rfl
    have HM := Lib.hid hm
    clear ha hb hm
    go_wp2_with fail
    go_ret
    exact ⟨rfl, HM.out⟩
theorem info48 : (Try.prog.info? 48).map (fun i => (i.zero, i.size, i.bytes)) = some (some (.agg #[.int .u8 0, .int .i64 0, .int .i64 0, .int .i64 0]), 4, 32) := by kernel_rfl
set_option maxRecDepth 100000 in
set_option maxHeartbeats 2000000 in
theorem sortK_any (S : Nat → Prop) (l : List K4) (v : Value) (w : World) (hl : l.length ≤ 4000) (h : Row S w 4 l.length v (flatC kC l)) :
    Calls Try.prog 64 #[v] w fun e w' => ∃ v', e = .returned v' ∧ w'.ownsRow w.heap.size 48 4 v' (sortS ltKb l).length (flatC kC (sortS ltKb l)) ∧ Below w.heap.size w w' := by
  obtain ⟨a, cap, rfl, _⟩ := h.shape
  have HR := Lib.hid h; clear h
  obtain ⟨i0, hi0, hz0, hz1, hz2⟩ := info_parts info48
  obtain ⟨N, hN⟩ : ∃ N, N = w.heap.size := ⟨_, rfl⟩
  have HN := Lib.hid hN
  rw [← hN]
  go_enter Try.func64, Try.ntmps64
  go_wp2_with fail
  clear hN
  go_loopw [3, 12] (fun v i wr => ∃ j : Nat, j ≤ l.length ∧ i = .int .i64 j ∧ Hid (Below N w wr) ∧ Hid (wr.ownsRow N 48 4 v (sortS ltKb (l.take j)).length (flatC kC (sortS ltKb (l.take j))))) (fun _ i _ => l.length - (intOf i).toNat)
  case atStart => exact ⟨0, Nat.zero_le _, rfl, Lib.hid (Below.refl _ _), Lib.hid (World.ownsRow_nil _ _ _ _)⟩
  case round =>
    obtain ⟨j, hj, rfl, HB, HO⟩ := hrel
    have HNW := Lib.hid (show N ≤ wr.heap.size by rw [HN.out]; exact HB.out.size)
    by_cases hlt : j < l.length
    · obtain ⟨oa, ocap, rfl, hoo⟩ := owns_shape HO.out
      have HOO := Lib.hid hoo
      clear hoo
      have HBW := Lib.hid (show Below w.heap.size w wr by rw [← HN.out]; exact HB.out)
      obtain ⟨b, off, rfl, _, hcg⟩ := HR.out.atC kC_len hlt
      have g0 := below_cell HBW.out (hcg 0 (.int .u8 l[j].kind) rfl)
      have g1 := below_cell HBW.out (hcg 1 (.int .i64 l[j].a) rfl)
      have g2 := below_cell HBW.out (hcg 2 (.int .i64 l[j].b) rfl)
      have g3 := below_cell HBW.out (hcg 3 (.int .i64 l[j].n) rfl)
      rw [Nat.add_zero] at g0
      clear hcg
      have HT := Lib.hid (sortS_take ltKb l j hlt)
      have HLO := Lib.hid (show (sortS ltKb (l.take j)).length ≤ 4000 by have := sortS_le ltKb (l.take j); rw [List.length_take] at this; omega)
      generalize l[j] = x at *
      generalize sortS ltKb (l.take j) = O at *
      have hlo : O.length ≤ 4000 := HLO.out
      have hbg := cell_lt g0
      go_wp2_with fail
      have HBX := Lib.hid (alloc_last wr (.cells #[.int .u8 x.kind, .int .i64 x.a, .int .i64 x.b, .int .i64 x.n] 48))
      have HBs := Lib.hid (HB.out.alloc HNW.out (.cells #[.int .u8 x.kind, .int .i64 x.a, .int .i64 x.b, .int .i64 x.n] 48))
      have HOs := Lib.hid (owns_keep HO.out (fun y hy => Below.heap_alloc wr (.cells #[.int .u8 x.kind, .int .i64 x.a, .int .i64 x.b, .int .i64 x.n] 48) _ (HOO.out y hy).2))
      have HMS := Lib.hid (show wr.heap.size < (wr.alloc (.cells #[.int .u8 x.kind, .int .i64 x.a, .int .i64 x.b, .int .i64 x.n] 48)).heap.size by simp)
      clear g0 g1 g2 g3 hbg HB HO HOO
      generalize wr.alloc (.cells #[.int .u8 x.kind, .int .i64 x.a, .int .i64 x.b, .int .i64 x.n] 48) = ws at *
      generalize hXB : wr.heap.size = XB at *
      clear hXB
      obtain ⟨M, HM⟩ : ∃ M, Hid (M = ws.heap.size) := ⟨_, Lib.hid rfl⟩
      have HMX := Lib.hid (show XB < M by rw [HM.out]; exact HMS.out)
      have HMN := Lib.hid (show N ≤ M by have := HMX.out; have := HNW.out; omega)
      obtain ⟨wo, rfl⟩ : ∃ wo : World, wo = wr := ⟨_, rfl⟩
      go_loopw [6, 7, 18] (fun nx dn i wx => ∃ (k : Nat) (n : List K4) (d : Bool), k ≤ O.length ∧ i = .int .i64 k ∧ dn = .bool d ∧ Hid ((O.take k).foldl (stS ltKb x) ([], false) = (n, d)) ∧ Hid (Below M ws wx) ∧ Hid (wx.ownsRow M 48 4 nx n.length (flatC kC n))) (fun _ _ i _ => O.length - (intOf i).toNat)
      case atStart => exact ⟨0, [], false, Nat.zero_le _, rfl, rfl, Lib.hid rfl, Lib.hid (Below.refl _ _), Lib.hid (World.ownsRow_nil _ _ _ _)⟩
      case round =>
        obtain ⟨k, n, d, hk, rfl, rfl, HF, HBx, HOx⟩ := hrel
        have HLN := Lib.hid (show n.length ≤ 2 * k by have := stS_le ltKb x (O.take k) ([], false); rw [HF.out] at this; simp [List.length_take] at this; omega)
        have HMW := Lib.hid (show M ≤ wr.heap.size by rw [HM.out]; exact HBx.out.size)
        have HBX2 := Lib.hid ((HBx.out.block XB HMX.out).trans HBX.out)
        have HM12 := Lib.hid (show n.length + 1 + 1 ≤ maxLen ∧ (n.length + 1 + 1) * 32 ≤ 140737488355328 from ⟨by unfold maxLen; have := HLN.out; have := HLO.out; omega, by have := HLN.out; have := HLO.out; omega⟩)
        have hm1 : n.length + 1 ≤ maxLen := by unfold maxLen; have := HLN.out; have := HLO.out; omega
        have hm2 : (n.length + 1) * 32 ≤ 140737488355328 := by have := HLN.out; have := HLO.out; omega
        obtain ⟨na, ncap, rfl, hno⟩ := owns_shape HOx.out
        have HNO := Lib.hid hno
        clear hno
        by_cases hkl : k < O.length
        · obtain ⟨b2, off2, rfl, _, hcg⟩ := (Row.of_owns HOs.out).atC kC_len hkl
          have HBM := Lib.hid (show Below ws.heap.size ws wr by rw [← HM.out]; exact HBx.out)
          have g0 := below_cell HBM.out (hcg 0 (.int .u8 O[k].kind) rfl)
          have g1 := below_cell HBM.out (hcg 1 (.int .i64 O[k].a) rfl)
          have g2 := below_cell HBM.out (hcg 2 (.int .i64 O[k].b) rfl)
          have g3 := below_cell HBM.out (hcg 3 (.int .i64 O[k].n) rfl)
          rw [Nat.add_zero] at g0
          clear hcg
          have HST := Lib.hid (show (O.take (k + 1)).foldl (stS ltKb x) ([], false) = stS ltKb x (n, d) O[k] by rw [List.take_succ_eq_append_getElem hkl, List.foldl_append, HF.out]; rfl)
          generalize O[k] = y at *
          have hbg := cell_lt g0
          have x0 : wr.cell? ⟨XB, 0, none⟩ = some (.int .u8 x.kind) := cell_of_blk HBX2.out rfl
          have x1 : wr.cell? ⟨XB, 1, none⟩ = some (.int .i64 x.a) := cell_of_blk HBX2.out rfl
          have x2 : wr.cell? ⟨XB, 2, none⟩ = some (.int .i64 x.b) := cell_of_blk HBX2.out rfl
          have x3 : wr.cell? ⟨XB, 3, none⟩ = some (.int .i64 x.n) := cell_of_blk HBX2.out rfl
          have hxb := cell_lt x0
          have heq := fun W => run_eqK y x W
          obtain ⟨q, HQ⟩ : ∃ q, Hid (decide (y = x) = q) := ⟨_, Lib.hid rfl⟩
          rw [HQ.out] at heq
          have HLS := Lib.hid (fun W => lessK_ref x y W)
          obtain ⟨r, HRR⟩ : ∃ r, Hid (ltKb x y = r) := ⟨_, Lib.hid rfl⟩
          rw [HRR.out] at HLS
          go_upto_region 10 with (fail)
          have HY := Lib.hid (alloc_last wr (.cells #[.int .u8 y.kind, .int .i64 y.a, .int .i64 y.b, .int .i64 y.n] 48))
          have HX := Lib.hid ((Below.heap_alloc wr (.cells #[.int .u8 y.kind, .int .i64 y.a, .int .i64 y.b, .int .i64 y.n] 48) _ hxb).trans HBX2.out)
          have HB1 := Lib.hid (HBx.out.alloc HMW.out (.cells #[.int .u8 y.kind, .int .i64 y.a, .int .i64 y.b, .int .i64 y.n] 48))
          have HO1 := Lib.hid (owns_keep HOx.out (fun z hz => Below.heap_alloc wr (.cells #[.int .u8 y.kind, .int .i64 y.a, .int .i64 y.b, .int .i64 y.n] 48) _ (HNO.out z hz).2))
          have HM1 := Lib.hid (show M ≤ (wr.alloc (.cells #[.int .u8 y.kind, .int .i64 y.a, .int .i64 y.b, .int .i64 y.n] 48)).heap.size by rw [World.size_alloc]; have := HMW.out; omega)
          have HYX := Lib.hid (show M ≤ wr.heap.size from HMW.out)
          clear g0 g1 g2 g3 x0 x1 x2 x3 hbg hxb
          generalize wr.alloc (.cells #[.int .u8 y.kind, .int .i64 y.a, .int .i64 y.b, .int .i64 y.n] 48) = w1 at *
          generalize wr.heap.size = YB at *
          have x0 : w1.cell? ⟨XB, 0, none⟩ = some (.int .u8 x.kind) := cell_of_blk HX.out rfl
          have x1 : w1.cell? ⟨XB, 1, none⟩ = some (.int .i64 x.a) := cell_of_blk HX.out rfl
          have x2 : w1.cell? ⟨XB, 2, none⟩ = some (.int .i64 x.b) := cell_of_blk HX.out rfl
          have x3 : w1.cell? ⟨XB, 3, none⟩ = some (.int .i64 x.n) := cell_of_blk HX.out rfl
          have y0 : w1.cell? ⟨YB, 0, none⟩ = some (.int .u8 y.kind) := cell_of_blk HY.out rfl
          have y1 : w1.cell? ⟨YB, 1, none⟩ = some (.int .i64 y.a) := cell_of_blk HY.out rfl
          have y2 : w1.cell? ⟨YB, 2, none⟩ = some (.int .i64 y.b) := cell_of_blk HY.out rfl
          have y3 : w1.cell? ⟨YB, 3, none⟩ = some (.int .i64 y.n) := cell_of_blk HY.out rfl
          have hx := cell_lt x0
          have hy := cell_lt y0
          have hM1 := HM1.out
          cases q with
          | true =>
            obtain rfl : y = x := by have := HQ.out; simpa using this
            go_wp2_with (at_builtin; refine wpList_append_own _ rfl _ _ 27 rfl M 48 i0 _ 4 32 Try.underlying27 hi0 hz0 hz1 hz2 rfl (by omega) _ _ _ rfl (owns_keep HO1.out (fun z hz => Below.heap_alloc w1 _ _ ((owns_shape (HO1.out)).choose_spec.choose_spec.2 z hz).2)) ⟨w1.heap.size, 0, none⟩ 1 1 [.int .u8 y.kind, .int .i64 y.a, .int .i64 y.b, .int .i64 y.n] rfl rfl (World.news_of_block (cs := #[.int .u8 y.kind, .int .i64 y.a, .int .i64 y.b, .int .i64 y.n]) (t := 48) (fr := (0, 0)) (alloc_last _ _)) (by simp [Value.oneCell']) hm1 hm2 (by rw [World.size_alloc]; omega) ?_; intro v6 w6 hown6 hgrow6 _)
            have HB6 := Lib.hid ((HB1.out.alloc hM1 _).grown hgrow6 (by rw [World.size_alloc]; omega) (fun z hz => ((owns_shape HO1.out).choose_spec.choose_spec.2 z hz).1))
            have HO6 := Lib.hid hown6
            clear hown6 hgrow6 x0 x1 x2 x3 y0 y1 y2 y3 heq
            go_wp2_with fail
            go_roundw
            case rel => exact ⟨k + 1, n ++ [y], true, by omega, by go_num, rfl, Lib.hid (by rw [HST.out]; unfold stS; rw [if_pos (Or.inr rfl)]), HB6, Lib.hid (by rw [flatC_push, List.length_append]; exact HO6.out)⟩
            case measure => simp [intOf]; omega
          | false =>
            have HNEQ := Lib.hid (show ¬ y = x by have := HQ.out; simpa using this)
            cases d with
            | true =>
              go_wp2_with (at_builtin; refine wpList_append_own _ rfl _ _ 27 rfl M 48 i0 _ 4 32 Try.underlying27 hi0 hz0 hz1 hz2 rfl (by omega) _ _ _ rfl (owns_keep HO1.out (fun z hz => Below.heap_alloc w1 _ _ ((owns_shape (HO1.out)).choose_spec.choose_spec.2 z hz).2)) ⟨w1.heap.size, 0, none⟩ 1 1 [.int .u8 y.kind, .int .i64 y.a, .int .i64 y.b, .int .i64 y.n] rfl rfl (World.news_of_block (cs := #[.int .u8 y.kind, .int .i64 y.a, .int .i64 y.b, .int .i64 y.n]) (t := 48) (fr := (0, 0)) (alloc_last _ _)) (by simp [Value.oneCell']) hm1 hm2 (by rw [World.size_alloc]; omega) ?_; intro v6 w6 hown6 hgrow6 _)
              have HB6 := Lib.hid ((HB1.out.alloc hM1 _).grown hgrow6 (by rw [World.size_alloc]; omega) (fun z hz => ((owns_shape HO1.out).choose_spec.choose_spec.2 z hz).1))
              have HO6 := Lib.hid hown6
              clear hown6 hgrow6 x0 x1 x2 x3 y0 y1 y2 y3 heq
              go_wp2_with fail
              go_roundw
              case rel => exact ⟨k + 1, n ++ [y], true, by omega, by go_num, rfl, Lib.hid (by rw [HST.out]; unfold stS; rw [if_pos (Or.inl rfl)]), HB6, Lib.hid (by rw [flatC_push, List.length_append]; exact HO6.out)⟩
              case measure => simp [intOf]; omega
            | false =>
              go_wp2_with fail
              refine (HLS.out _).mono ?_
              rintro e w2 ⟨rfl, hl2⟩
              have HB2 := Lib.hid (HB1.out.trans (hl2.1.below.mono HM1.out))
              have HO2 := Lib.hid (owns_keep HO1.out (fun z hz => hl2.1.block ((owns_shape HO1.out).choose_spec.choose_spec.2 z hz).2))
              have HM2 := Lib.hid (Nat.le_trans HM1.out hl2.1.size)
              have HX2 := Lib.hid ((hl2.1.block hx).trans HX.out)
              have HY2 := Lib.hid ((hl2.1.block hy).trans HY.out)
              clear hl2 x0 x1 x2 x3 y0 y1 y2 y3 hx hy heq
              have x0 : w2.cell? ⟨XB, 0, none⟩ = some (.int .u8 x.kind) := cell_of_blk HX2.out rfl
              have x1 : w2.cell? ⟨XB, 1, none⟩ = some (.int .i64 x.a) := cell_of_blk HX2.out rfl
              have x2 : w2.cell? ⟨XB, 2, none⟩ = some (.int .i64 x.b) := cell_of_blk HX2.out rfl
              have x3 : w2.cell? ⟨XB, 3, none⟩ = some (.int .i64 x.n) := cell_of_blk HX2.out rfl
              have y0 : w2.cell? ⟨YB, 0, none⟩ = some (.int .u8 y.kind) := cell_of_blk HY2.out rfl
              have y1 : w2.cell? ⟨YB, 1, none⟩ = some (.int .i64 y.a) := cell_of_blk HY2.out rfl
              have y2 : w2.cell? ⟨YB, 2, none⟩ = some (.int .i64 y.b) := cell_of_blk HY2.out rfl
              have y3 : w2.cell? ⟨YB, 3, none⟩ = some (.int .i64 y.n) := cell_of_blk HY2.out rfl
              have hx := cell_lt x0
              have hy := cell_lt y0
              have hM2 := HM2.out
              cases r with
              | false =>
                go_wp2_with (at_builtin; refine wpList_append_own _ rfl _ _ 27 rfl M 48 i0 _ 4 32 Try.underlying27 hi0 hz0 hz1 hz2 rfl (by omega) _ _ _ rfl (owns_keep HO2.out (fun z hz => Below.heap_alloc w2 _ _ ((owns_shape (HO2.out)).choose_spec.choose_spec.2 z hz).2)) ⟨w2.heap.size, 0, none⟩ 1 1 [.int .u8 y.kind, .int .i64 y.a, .int .i64 y.b, .int .i64 y.n] rfl rfl (World.news_of_block (cs := #[.int .u8 y.kind, .int .i64 y.a, .int .i64 y.b, .int .i64 y.n]) (t := 48) (fr := (0, 0)) (alloc_last _ _)) (by simp [Value.oneCell']) hm1 hm2 (by rw [World.size_alloc]; omega) ?_; intro v6 w6 hown6 hgrow6 _)
                have HB6 := Lib.hid ((HB2.out.alloc hM2 _).grown hgrow6 (by rw [World.size_alloc]; omega) (fun z hz => ((owns_shape HO2.out).choose_spec.choose_spec.2 z hz).1))
                have HO6 := Lib.hid hown6
                clear hown6 hgrow6 x0 x1 x2 x3 y0 y1 y2 y3
                go_wp2_with fail
                go_roundw
                case rel => exact ⟨k + 1, n ++ [y], false, by omega, by go_num, rfl, Lib.hid (by rw [HST.out]; unfold stS; rw [if_neg (by rintro (h | h); exact absurd h (by simp); exact HNEQ.out h), if_neg (by rw [HRR.out]; simp)]), HB6, Lib.hid (by rw [flatC_push, List.length_append]; exact HO6.out)⟩
                case measure => simp [intOf]; omega
              | true =>
                go_upto_region 14 with (at_builtin; refine wpList_append_own _ rfl _ _ 27 rfl M 48 i0 _ 4 32 Try.underlying27 hi0 hz0 hz1 hz2 rfl (by omega) _ _ _ rfl (owns_keep HO2.out (fun z hz => Below.heap_alloc w2 _ _ ((owns_shape (HO2.out)).choose_spec.choose_spec.2 z hz).2)) ⟨w2.heap.size, 0, none⟩ 1 1 [.int .u8 x.kind, .int .i64 x.a, .int .i64 x.b, .int .i64 x.n] rfl rfl (World.news_of_block (cs := #[.int .u8 x.kind, .int .i64 x.a, .int .i64 x.b, .int .i64 x.n]) (t := 48) (fr := (0, 0)) (alloc_last _ _)) (by simp [Value.oneCell']) hm1 hm2 (by rw [World.size_alloc]; omega) ?_; intro v6 w6 hown6 hgrow6 _)
                have HB6 := Lib.hid ((HB2.out.alloc hM2 _).grown hgrow6 (by rw [World.size_alloc]; omega) (fun z hz => ((owns_shape HO2.out).choose_spec.choose_spec.2 z hz).1))
                have HO6 := Lib.hid hown6
                have HY6 := Lib.hid ((hgrow6.block YB (by rw [World.size_alloc]; omega) (fun e => by have := (HNO.out YB e.symm).2; omega)).trans ((Below.heap_alloc w2 _ _ hy).trans HY2.out))
                have HM6 := Lib.hid (show M ≤ w6.heap.size by rw [HM.out]; exact HB6.out.size)
                clear hm1 hm2
                have hm1 := HM12.out.1
                have hm2 := HM12.out.2
                clear hown6 hgrow6 x0 x1 x2 x3 y0 y1 y2 y3 hx hy
                have y0 : w6.cell? ⟨YB, 0, none⟩ = some (.int .u8 y.kind) := cell_of_blk HY6.out rfl
                have y1 : w6.cell? ⟨YB, 1, none⟩ = some (.int .i64 y.a) := cell_of_blk HY6.out rfl
                have y2 : w6.cell? ⟨YB, 2, none⟩ = some (.int .i64 y.b) := cell_of_blk HY6.out rfl
                have y3 : w6.cell? ⟨YB, 3, none⟩ = some (.int .i64 y.n) := cell_of_blk HY6.out rfl
                have hy := cell_lt y0
                have hM6 := HM6.out
                go_wp2_with (at_builtin; refine wpList_append_own _ rfl _ _ 27 rfl M 48 i0 _ 4 32 Try.underlying27 hi0 hz0 hz1 hz2 rfl (by omega) _ _ _ rfl (owns_keep HO6.out (fun z hz => Below.heap_alloc w6 _ _ ((owns_shape (HO6.out)).choose_spec.choose_spec.2 z hz).2)) ⟨w6.heap.size, 0, none⟩ 1 1 [.int .u8 y.kind, .int .i64 y.a, .int .i64 y.b, .int .i64 y.n] rfl rfl (World.news_of_block (cs := #[.int .u8 y.kind, .int .i64 y.a, .int .i64 y.b, .int .i64 y.n]) (t := 48) (fr := (0, 0)) (alloc_last _ _)) (by simp [Value.oneCell']) hm1 hm2 (by rw [World.size_alloc]; omega) ?_; intro v7 w7 hown7 hgrow7 _)
                have HB7 := Lib.hid ((HB6.out.alloc hM6 _).grown hgrow7 (by rw [World.size_alloc]; omega) (fun z hz => ((owns_shape HO6.out).choose_spec.choose_spec.2 z hz).1))
                have HO7 := Lib.hid hown7
                clear hown7 hgrow7 y0 y1 y2 y3
                go_wp2_with fail
                go_roundw
                case rel => exact ⟨k + 1, n ++ [x, y], true, by omega, by go_num, rfl, Lib.hid (by rw [HST.out]; unfold stS; rw [if_neg (by rintro (h | h); exact absurd h (by simp); exact HNEQ.out h), if_pos HRR.out]), HB7, Lib.hid (by rw [show n ++ [x, y] = n ++ [x] ++ [y] by simp, flatC_push, flatC_push, List.length_append, List.length_append]; exact HO7.out)⟩
                case measure => simp [intOf]; omega
        · obtain rfl : k = O.length := by omega
          have HEND := Lib.hid (stS_ins ltKb x O [])
          rw [List.take_of_length_le (Nat.le_refl _)] at HF
          rw [HF.out] at HEND
          have HBE := Lib.hid (HBs.out.trans (HBx.out.mono HMN.out))
          cases d with
          | true =>
            go_wp2_with fail
            go_roundw
            case rel =>
              refine ⟨j + 1, by omega, by go_num, HBE, Lib.hid ?_⟩
              have e : n = insS ltKb x O := by simpa using HEND.out
              rw [HT.out, ← e]
              exact owns_base HOx.out HMN.out
            case measure => simp [intOf]; omega
          | false =>
            have x0 : wr.cell? ⟨XB, 0, none⟩ = some (.int .u8 x.kind) := cell_of_blk HBX2.out rfl
            have x1 : wr.cell? ⟨XB, 1, none⟩ = some (.int .i64 x.a) := cell_of_blk HBX2.out rfl
            have x2 : wr.cell? ⟨XB, 2, none⟩ = some (.int .i64 x.b) := cell_of_blk HBX2.out rfl
            have x3 : wr.cell? ⟨XB, 3, none⟩ = some (.int .i64 x.n) := cell_of_blk HBX2.out rfl
            have hx := cell_lt x0
            have hMW := HMW.out
            go_wp2_with (at_builtin; refine wpList_append_own _ rfl _ _ 27 rfl M 48 i0 _ 4 32 Try.underlying27 hi0 hz0 hz1 hz2 rfl (by omega) _ _ _ rfl (owns_keep HOx.out (fun z hz => Below.heap_alloc wr _ _ ((owns_shape (HOx.out)).choose_spec.choose_spec.2 z hz).2)) ⟨wr.heap.size, 0, none⟩ 1 1 [.int .u8 x.kind, .int .i64 x.a, .int .i64 x.b, .int .i64 x.n] rfl rfl (World.news_of_block (cs := #[.int .u8 x.kind, .int .i64 x.a, .int .i64 x.b, .int .i64 x.n]) (t := 48) (fr := (0, 0)) (alloc_last _ _)) (by simp [Value.oneCell']) hm1 hm2 (by rw [World.size_alloc]; omega) ?_; intro v6 w6 hown6 hgrow6 _)
            have HB6 := Lib.hid ((HBx.out.alloc hMW _).grown hgrow6 (by rw [World.size_alloc]; omega) (fun z hz => ((owns_shape HOx.out).choose_spec.choose_spec.2 z hz).1))
            have HO6 := Lib.hid hown6
            clear hown6 hgrow6 x0 x1 x2 x3
            go_wp2_with fail
            go_roundw
            case rel =>
              refine ⟨j + 1, by omega, by go_num, Lib.hid (HBs.out.trans (HB6.out.mono HMN.out)), Lib.hid ?_⟩
              have e : n ++ [x] = insS ltKb x O := by simpa using HEND.out
              rw [HT.out, ← e, flatC_push, List.length_append]
              exact owns_base HO6.out HMN.out
            case measure => simp [intOf]; omega
    · obtain rfl : j = l.length := by omega
      rw [List.take_of_length_le (Nat.le_refl _)] at HO
      go_wp2_with fail
      go_ret
      exact ⟨_, rfl, HO.out, by rw [HN.out]; rw [HN.out] at HB; exact HB.out⟩
set_option maxRecDepth 100000 in
theorem lessM_ref (x y : M3) (w : World) : Calls Try.prog 117 #[.agg #[.int .i64 x.f, .int .i64 x.t, .int .i64 x.n], .agg #[.int .i64 y.f, .int .i64 y.t, .int .i64 y.n]] w fun e w' => e = .returned (.bool (ltMb x y)) ∧ Lay w w' := by
  obtain ⟨xf, xt, xn⟩ := x
  obtain ⟨yf, yt, yn⟩ := y
  dsimp only
  by_cases hf : xf = yf
  · subst hf
    by_cases ht : xt = yt
    · subst ht
      have e : ltMb ⟨xf, xt, xn⟩ ⟨xf, xt, yn⟩ = decide (xn < yn) := by unfold ltMb; rw [Bool.eq_iff_iff, decide_eq_true_iff, decide_eq_true_iff]; unfold ltM; dsimp only; omega
      rw [e]
      clear e
      go_enter Try.func117, Try.ntmps117
      go_wp2_with fail
      obtain ⟨ha, hb, hm⟩ := boxed2 w (.cells #[.int .i64 xf, .int .i64 xt, .int .i64 xn] 54) (.cells #[.int .i64 xf, .int .i64 xt, .int .i64 yn] 54)
      generalize (w.alloc (.cells #[.int .i64 xf, .int .i64 xt, .int .i64 xn] 54)).alloc (.cells #[.int .i64 xf, .int .i64 xt, .int .i64 yn] 54) = w2 at *
      have a0 : w2.cell? ⟨w.heap.size, 0, none⟩ = some (.int .i64 xf) := cell_of_blk ha rfl
      have a1 : w2.cell? ⟨w.heap.size, 1, none⟩ = some (.int .i64 xt) := cell_of_blk ha rfl
      have a2 : w2.cell? ⟨w.heap.size, 2, none⟩ = some (.int .i64 xn) := cell_of_blk ha rfl
      have b0 : w2.cell? ⟨w.heap.size + 1, 0, none⟩ = some (.int .i64 xf) := cell_of_blk hb rfl
      have b1 : w2.cell? ⟨w.heap.size + 1, 1, none⟩ = some (.int .i64 xt) := cell_of_blk hb rfl
      have b2 : w2.cell? ⟨w.heap.size + 1, 2, none⟩ = some (.int .i64 yn) := cell_of_blk hb rfl
      have HM := Lib.hid hm
      clear ha hb hm
      go_wp2_with fail
      go_ret
      exact ⟨rfl, HM.out⟩
    · skip
      have e : ltMb ⟨xf, xt, xn⟩ ⟨xf, yt, yn⟩ = decide (xt < yt) := by unfold ltMb; rw [Bool.eq_iff_iff, decide_eq_true_iff, decide_eq_true_iff]; unfold ltM; dsimp only; omega
      rw [e]
      clear e
      go_enter Try.func117, Try.ntmps117
      go_wp2_with fail
      obtain ⟨ha, hb, hm⟩ := boxed2 w (.cells #[.int .i64 xf, .int .i64 xt, .int .i64 xn] 54) (.cells #[.int .i64 xf, .int .i64 yt, .int .i64 yn] 54)
      generalize (w.alloc (.cells #[.int .i64 xf, .int .i64 xt, .int .i64 xn] 54)).alloc (.cells #[.int .i64 xf, .int .i64 yt, .int .i64 yn] 54) = w2 at *
      have a0 : w2.cell? ⟨w.heap.size, 0, none⟩ = some (.int .i64 xf) := cell_of_blk ha rfl
      have a1 : w2.cell? ⟨w.heap.size, 1, none⟩ = some (.int .i64 xt) := cell_of_blk ha rfl
      have a2 : w2.cell? ⟨w.heap.size, 2, none⟩ = some (.int .i64 xn) := cell_of_blk ha rfl
      have b0 : w2.cell? ⟨w.heap.size + 1, 0, none⟩ = some (.int .i64 xf) := cell_of_blk hb rfl
      have b1 : w2.cell? ⟨w.heap.size + 1, 1, none⟩ = some (.int .i64 yt) := cell_of_blk hb rfl
      have b2 : w2.cell? ⟨w.heap.size + 1, 2, none⟩ = some (.int .i64 yn) := cell_of_blk hb rfl
      have HM := Lib.hid hm
      clear ha hb hm
      go_wp2_with fail
      go_ret
      exact ⟨rfl, HM.out⟩
  · skip
    have e : ltMb ⟨xf, xt, xn⟩ ⟨yf, yt, yn⟩ = decide (xf < yf) := by unfold ltMb; rw [Bool.eq_iff_iff, decide_eq_true_iff, decide_eq_true_iff]; unfold ltM; dsimp only; omega
    rw [e]
    clear e
    go_enter Try.func117, Try.ntmps117
    go_wp2_with fail
    obtain ⟨ha, hb, hm⟩ := boxed2 w (.cells #[.int .i64 xf, .int .i64 xt, .int .i64 xn] 54) (.cells #[.int .i64 yf, .int .i64 yt, .int .i64 yn] 54)
    generalize (w.alloc (.cells #[.int .i64 xf, .int .i64 xt, .int .i64 xn] 54)).alloc (.cells #[.int .i64 yf, .int .i64 yt, .int .i64 yn] 54) = w2 at *
    have a0 : w2.cell? ⟨w.heap.size, 0, none⟩ = some (.int .i64 xf) := cell_of_blk ha rfl
    have a1 : w2.cell? ⟨w.heap.size, 1, none⟩ = some (.int .i64 xt) := cell_of_blk ha rfl
    have a2 : w2.cell? ⟨w.heap.size, 2, none⟩ = some (.int .i64 xn) := cell_of_blk ha rfl
    have b0 : w2.cell? ⟨w.heap.size + 1, 0, none⟩ = some (.int .i64 yf) := cell_of_blk hb rfl
    have b1 : w2.cell? ⟨w.heap.size + 1, 1, none⟩ = some (.int .i64 yt) := cell_of_blk hb rfl
    have b2 : w2.cell? ⟨w.heap.size + 1, 2, none⟩ = some (.int .i64 yn) := cell_of_blk hb rfl
    have HM := Lib.hid hm
    clear ha hb hm
    go_wp2_with fail
    go_ret
    exact ⟨rfl, HM.out⟩
theorem info54 : (Try.prog.info? 54).map (fun i => (i.zero, i.size, i.bytes)) = some (some (.agg #[.int .i64 0, .int .i64 0, .int .i64 0]), 3, 24) := by kernel_rfl
set_option maxRecDepth 100000 in
set_option maxHeartbeats 2000000 in
theorem sortM_any (S : Nat → Prop) (l : List M3) (v : Value) (w : World) (hl : l.length ≤ 4000) (h : Row S w 3 l.length v (flatC mC l)) :
    Calls Try.prog 65 #[v] w fun e w' => ∃ v', e = .returned v' ∧ w'.ownsRow w.heap.size 54 3 v' (sortS ltMb l).length (flatC mC (sortS ltMb l)) ∧ Below w.heap.size w w' := by
  obtain ⟨a, cap, rfl, _⟩ := h.shape
  have HR := Lib.hid h; clear h
  obtain ⟨i0, hi0, hz0, hz1, hz2⟩ := info_parts info54
  obtain ⟨N, hN⟩ : ∃ N, N = w.heap.size := ⟨_, rfl⟩
  have HN := Lib.hid hN
  rw [← hN]
  go_enter Try.func65, Try.ntmps65
  go_wp2_with fail
  clear hN
  go_loopw [3, 12] (fun v i wr => ∃ j : Nat, j ≤ l.length ∧ i = .int .i64 j ∧ Hid (Below N w wr) ∧ Hid (wr.ownsRow N 54 3 v (sortS ltMb (l.take j)).length (flatC mC (sortS ltMb (l.take j))))) (fun _ i _ => l.length - (intOf i).toNat)
  case atStart => exact ⟨0, Nat.zero_le _, rfl, Lib.hid (Below.refl _ _), Lib.hid (World.ownsRow_nil _ _ _ _)⟩
  case round =>
    obtain ⟨j, hj, rfl, HB, HO⟩ := hrel
    have HNW := Lib.hid (show N ≤ wr.heap.size by rw [HN.out]; exact HB.out.size)
    by_cases hlt : j < l.length
    · obtain ⟨oa, ocap, rfl, hoo⟩ := owns_shape HO.out
      have HOO := Lib.hid hoo
      clear hoo
      have HBW := Lib.hid (show Below w.heap.size w wr by rw [← HN.out]; exact HB.out)
      obtain ⟨b, off, rfl, _, hcg⟩ := HR.out.atC mC_len hlt
      have g0 := below_cell HBW.out (hcg 0 (.int .i64 l[j].f) rfl)
      have g1 := below_cell HBW.out (hcg 1 (.int .i64 l[j].t) rfl)
      have g2 := below_cell HBW.out (hcg 2 (.int .i64 l[j].n) rfl)
      rw [Nat.add_zero] at g0
      clear hcg
      have HT := Lib.hid (sortS_take ltMb l j hlt)
      have HLO := Lib.hid (show (sortS ltMb (l.take j)).length ≤ 4000 by have := sortS_le ltMb (l.take j); rw [List.length_take] at this; omega)
      generalize l[j] = x at *
      generalize sortS ltMb (l.take j) = O at *
      have hlo : O.length ≤ 4000 := HLO.out
      have hbg := cell_lt g0
      go_wp2_with fail
      have HBX := Lib.hid (alloc_last wr (.cells #[.int .i64 x.f, .int .i64 x.t, .int .i64 x.n] 54))
      have HBs := Lib.hid (HB.out.alloc HNW.out (.cells #[.int .i64 x.f, .int .i64 x.t, .int .i64 x.n] 54))
      have HOs := Lib.hid (owns_keep HO.out (fun y hy => Below.heap_alloc wr (.cells #[.int .i64 x.f, .int .i64 x.t, .int .i64 x.n] 54) _ (HOO.out y hy).2))
      have HMS := Lib.hid (show wr.heap.size < (wr.alloc (.cells #[.int .i64 x.f, .int .i64 x.t, .int .i64 x.n] 54)).heap.size by simp)
      clear g0 g1 g2 hbg HB HO HOO
      generalize wr.alloc (.cells #[.int .i64 x.f, .int .i64 x.t, .int .i64 x.n] 54) = ws at *
      generalize hXB : wr.heap.size = XB at *
      clear hXB
      obtain ⟨M, HM⟩ : ∃ M, Hid (M = ws.heap.size) := ⟨_, Lib.hid rfl⟩
      have HMX := Lib.hid (show XB < M by rw [HM.out]; exact HMS.out)
      have HMN := Lib.hid (show N ≤ M by have := HMX.out; have := HNW.out; omega)
      obtain ⟨wo, rfl⟩ : ∃ wo : World, wo = wr := ⟨_, rfl⟩
      go_loopw [6, 7, 18] (fun nx dn i wx => ∃ (k : Nat) (n : List M3) (d : Bool), k ≤ O.length ∧ i = .int .i64 k ∧ dn = .bool d ∧ Hid ((O.take k).foldl (stS ltMb x) ([], false) = (n, d)) ∧ Hid (Below M ws wx) ∧ Hid (wx.ownsRow M 54 3 nx n.length (flatC mC n))) (fun _ _ i _ => O.length - (intOf i).toNat)
      case atStart => exact ⟨0, [], false, Nat.zero_le _, rfl, rfl, Lib.hid rfl, Lib.hid (Below.refl _ _), Lib.hid (World.ownsRow_nil _ _ _ _)⟩
      case round =>
        obtain ⟨k, n, d, hk, rfl, rfl, HF, HBx, HOx⟩ := hrel
        have HLN := Lib.hid (show n.length ≤ 2 * k by have := stS_le ltMb x (O.take k) ([], false); rw [HF.out] at this; simp [List.length_take] at this; omega)
        have HMW := Lib.hid (show M ≤ wr.heap.size by rw [HM.out]; exact HBx.out.size)
        have HBX2 := Lib.hid ((HBx.out.block XB HMX.out).trans HBX.out)
        have HM12 := Lib.hid (show n.length + 1 + 1 ≤ maxLen ∧ (n.length + 1 + 1) * 24 ≤ 140737488355328 from ⟨by unfold maxLen; have := HLN.out; have := HLO.out; omega, by have := HLN.out; have := HLO.out; omega⟩)
        have hm1 : n.length + 1 ≤ maxLen := by unfold maxLen; have := HLN.out; have := HLO.out; omega
        have hm2 : (n.length + 1) * 24 ≤ 140737488355328 := by have := HLN.out; have := HLO.out; omega
        obtain ⟨na, ncap, rfl, hno⟩ := owns_shape HOx.out
        have HNO := Lib.hid hno
        clear hno
        by_cases hkl : k < O.length
        · obtain ⟨b2, off2, rfl, _, hcg⟩ := (Row.of_owns HOs.out).atC mC_len hkl
          have HBM := Lib.hid (show Below ws.heap.size ws wr by rw [← HM.out]; exact HBx.out)
          have g0 := below_cell HBM.out (hcg 0 (.int .i64 O[k].f) rfl)
          have g1 := below_cell HBM.out (hcg 1 (.int .i64 O[k].t) rfl)
          have g2 := below_cell HBM.out (hcg 2 (.int .i64 O[k].n) rfl)
          rw [Nat.add_zero] at g0
          clear hcg
          have HST := Lib.hid (show (O.take (k + 1)).foldl (stS ltMb x) ([], false) = stS ltMb x (n, d) O[k] by rw [List.take_succ_eq_append_getElem hkl, List.foldl_append, HF.out]; rfl)
          generalize O[k] = y at *
          have hbg := cell_lt g0
          have x0 : wr.cell? ⟨XB, 0, none⟩ = some (.int .i64 x.f) := cell_of_blk HBX2.out rfl
          have x1 : wr.cell? ⟨XB, 1, none⟩ = some (.int .i64 x.t) := cell_of_blk HBX2.out rfl
          have x2 : wr.cell? ⟨XB, 2, none⟩ = some (.int .i64 x.n) := cell_of_blk HBX2.out rfl
          have hxb := cell_lt x0
          have heq := fun W => run_eqM y x W
          obtain ⟨q, HQ⟩ : ∃ q, Hid (decide (y = x) = q) := ⟨_, Lib.hid rfl⟩
          rw [HQ.out] at heq
          have HLS := Lib.hid (fun W => lessM_ref x y W)
          obtain ⟨r, HRR⟩ : ∃ r, Hid (ltMb x y = r) := ⟨_, Lib.hid rfl⟩
          rw [HRR.out] at HLS
          go_upto_region 10 with (fail)
          have HY := Lib.hid (alloc_last wr (.cells #[.int .i64 y.f, .int .i64 y.t, .int .i64 y.n] 54))
          have HX := Lib.hid ((Below.heap_alloc wr (.cells #[.int .i64 y.f, .int .i64 y.t, .int .i64 y.n] 54) _ hxb).trans HBX2.out)
          have HB1 := Lib.hid (HBx.out.alloc HMW.out (.cells #[.int .i64 y.f, .int .i64 y.t, .int .i64 y.n] 54))
          have HO1 := Lib.hid (owns_keep HOx.out (fun z hz => Below.heap_alloc wr (.cells #[.int .i64 y.f, .int .i64 y.t, .int .i64 y.n] 54) _ (HNO.out z hz).2))
          have HM1 := Lib.hid (show M ≤ (wr.alloc (.cells #[.int .i64 y.f, .int .i64 y.t, .int .i64 y.n] 54)).heap.size by rw [World.size_alloc]; have := HMW.out; omega)
          have HYX := Lib.hid (show M ≤ wr.heap.size from HMW.out)
          clear g0 g1 g2 x0 x1 x2 hbg hxb
          generalize wr.alloc (.cells #[.int .i64 y.f, .int .i64 y.t, .int .i64 y.n] 54) = w1 at *
          generalize wr.heap.size = YB at *
          have x0 : w1.cell? ⟨XB, 0, none⟩ = some (.int .i64 x.f) := cell_of_blk HX.out rfl
          have x1 : w1.cell? ⟨XB, 1, none⟩ = some (.int .i64 x.t) := cell_of_blk HX.out rfl
          have x2 : w1.cell? ⟨XB, 2, none⟩ = some (.int .i64 x.n) := cell_of_blk HX.out rfl
          have y0 : w1.cell? ⟨YB, 0, none⟩ = some (.int .i64 y.f) := cell_of_blk HY.out rfl
          have y1 : w1.cell? ⟨YB, 1, none⟩ = some (.int .i64 y.t) := cell_of_blk HY.out rfl
          have y2 : w1.cell? ⟨YB, 2, none⟩ = some (.int .i64 y.n) := cell_of_blk HY.out rfl
          have hx := cell_lt x0
          have hy := cell_lt y0
          have hM1 := HM1.out
          cases q with
          | true =>
            obtain rfl : y = x := by have := HQ.out; simpa using this
            go_wp2_with (at_builtin; refine wpList_append_own _ rfl _ _ 28 rfl M 54 i0 _ 3 24 Try.underlying28 hi0 hz0 hz1 hz2 rfl (by omega) _ _ _ rfl (owns_keep HO1.out (fun z hz => Below.heap_alloc w1 _ _ ((owns_shape (HO1.out)).choose_spec.choose_spec.2 z hz).2)) ⟨w1.heap.size, 0, none⟩ 1 1 [.int .i64 y.f, .int .i64 y.t, .int .i64 y.n] rfl rfl (World.news_of_block (cs := #[.int .i64 y.f, .int .i64 y.t, .int .i64 y.n]) (t := 54) (fr := (0, 0)) (alloc_last _ _)) (by simp [Value.oneCell']) hm1 hm2 (by rw [World.size_alloc]; omega) ?_; intro v6 w6 hown6 hgrow6 _)
            have HB6 := Lib.hid ((HB1.out.alloc hM1 _).grown hgrow6 (by rw [World.size_alloc]; omega) (fun z hz => ((owns_shape HO1.out).choose_spec.choose_spec.2 z hz).1))
            have HO6 := Lib.hid hown6
            clear hown6 hgrow6 x0 x1 x2 y0 y1 y2 heq
            go_wp2_with fail
            go_roundw
            case rel => exact ⟨k + 1, n ++ [y], true, by omega, by go_num, rfl, Lib.hid (by rw [HST.out]; unfold stS; rw [if_pos (Or.inr rfl)]), HB6, Lib.hid (by rw [flatC_push, List.length_append]; exact HO6.out)⟩
            case measure => simp [intOf]; omega
          | false =>
            have HNEQ := Lib.hid (show ¬ y = x by have := HQ.out; simpa using this)
            cases d with
            | true =>
              go_wp2_with (at_builtin; refine wpList_append_own _ rfl _ _ 28 rfl M 54 i0 _ 3 24 Try.underlying28 hi0 hz0 hz1 hz2 rfl (by omega) _ _ _ rfl (owns_keep HO1.out (fun z hz => Below.heap_alloc w1 _ _ ((owns_shape (HO1.out)).choose_spec.choose_spec.2 z hz).2)) ⟨w1.heap.size, 0, none⟩ 1 1 [.int .i64 y.f, .int .i64 y.t, .int .i64 y.n] rfl rfl (World.news_of_block (cs := #[.int .i64 y.f, .int .i64 y.t, .int .i64 y.n]) (t := 54) (fr := (0, 0)) (alloc_last _ _)) (by simp [Value.oneCell']) hm1 hm2 (by rw [World.size_alloc]; omega) ?_; intro v6 w6 hown6 hgrow6 _)
              have HB6 := Lib.hid ((HB1.out.alloc hM1 _).grown hgrow6 (by rw [World.size_alloc]; omega) (fun z hz => ((owns_shape HO1.out).choose_spec.choose_spec.2 z hz).1))
              have HO6 := Lib.hid hown6
              clear hown6 hgrow6 x0 x1 x2 y0 y1 y2 heq
              go_wp2_with fail
              go_roundw
              case rel => exact ⟨k + 1, n ++ [y], true, by omega, by go_num, rfl, Lib.hid (by rw [HST.out]; unfold stS; rw [if_pos (Or.inl rfl)]), HB6, Lib.hid (by rw [flatC_push, List.length_append]; exact HO6.out)⟩
              case measure => simp [intOf]; omega
            | false =>
              go_wp2_with fail
              refine (HLS.out _).mono ?_
              rintro e w2 ⟨rfl, hl2⟩
              have HB2 := Lib.hid (HB1.out.trans (hl2.1.below.mono HM1.out))
              have HO2 := Lib.hid (owns_keep HO1.out (fun z hz => hl2.1.block ((owns_shape HO1.out).choose_spec.choose_spec.2 z hz).2))
              have HM2 := Lib.hid (Nat.le_trans HM1.out hl2.1.size)
              have HX2 := Lib.hid ((hl2.1.block hx).trans HX.out)
              have HY2 := Lib.hid ((hl2.1.block hy).trans HY.out)
              clear hl2 x0 x1 x2 y0 y1 y2 hx hy heq
              have x0 : w2.cell? ⟨XB, 0, none⟩ = some (.int .i64 x.f) := cell_of_blk HX2.out rfl
              have x1 : w2.cell? ⟨XB, 1, none⟩ = some (.int .i64 x.t) := cell_of_blk HX2.out rfl
              have x2 : w2.cell? ⟨XB, 2, none⟩ = some (.int .i64 x.n) := cell_of_blk HX2.out rfl
              have y0 : w2.cell? ⟨YB, 0, none⟩ = some (.int .i64 y.f) := cell_of_blk HY2.out rfl
              have y1 : w2.cell? ⟨YB, 1, none⟩ = some (.int .i64 y.t) := cell_of_blk HY2.out rfl
              have y2 : w2.cell? ⟨YB, 2, none⟩ = some (.int .i64 y.n) := cell_of_blk HY2.out rfl
              have hx := cell_lt x0
              have hy := cell_lt y0
              have hM2 := HM2.out
              cases r with
              | false =>
                go_wp2_with (at_builtin; refine wpList_append_own _ rfl _ _ 28 rfl M 54 i0 _ 3 24 Try.underlying28 hi0 hz0 hz1 hz2 rfl (by omega) _ _ _ rfl (owns_keep HO2.out (fun z hz => Below.heap_alloc w2 _ _ ((owns_shape (HO2.out)).choose_spec.choose_spec.2 z hz).2)) ⟨w2.heap.size, 0, none⟩ 1 1 [.int .i64 y.f, .int .i64 y.t, .int .i64 y.n] rfl rfl (World.news_of_block (cs := #[.int .i64 y.f, .int .i64 y.t, .int .i64 y.n]) (t := 54) (fr := (0, 0)) (alloc_last _ _)) (by simp [Value.oneCell']) hm1 hm2 (by rw [World.size_alloc]; omega) ?_; intro v6 w6 hown6 hgrow6 _)
                have HB6 := Lib.hid ((HB2.out.alloc hM2 _).grown hgrow6 (by rw [World.size_alloc]; omega) (fun z hz => ((owns_shape HO2.out).choose_spec.choose_spec.2 z hz).1))
                have HO6 := Lib.hid hown6
                clear hown6 hgrow6 x0 x1 x2 y0 y1 y2
                go_wp2_with fail
                go_roundw
                case rel => exact ⟨k + 1, n ++ [y], false, by omega, by go_num, rfl, Lib.hid (by rw [HST.out]; unfold stS; rw [if_neg (by rintro (h | h); exact absurd h (by simp); exact HNEQ.out h), if_neg (by rw [HRR.out]; simp)]), HB6, Lib.hid (by rw [flatC_push, List.length_append]; exact HO6.out)⟩
                case measure => simp [intOf]; omega
              | true =>
                go_upto_region 14 with (at_builtin; refine wpList_append_own _ rfl _ _ 28 rfl M 54 i0 _ 3 24 Try.underlying28 hi0 hz0 hz1 hz2 rfl (by omega) _ _ _ rfl (owns_keep HO2.out (fun z hz => Below.heap_alloc w2 _ _ ((owns_shape (HO2.out)).choose_spec.choose_spec.2 z hz).2)) ⟨w2.heap.size, 0, none⟩ 1 1 [.int .i64 x.f, .int .i64 x.t, .int .i64 x.n] rfl rfl (World.news_of_block (cs := #[.int .i64 x.f, .int .i64 x.t, .int .i64 x.n]) (t := 54) (fr := (0, 0)) (alloc_last _ _)) (by simp [Value.oneCell']) hm1 hm2 (by rw [World.size_alloc]; omega) ?_; intro v6 w6 hown6 hgrow6 _)
                have HB6 := Lib.hid ((HB2.out.alloc hM2 _).grown hgrow6 (by rw [World.size_alloc]; omega) (fun z hz => ((owns_shape HO2.out).choose_spec.choose_spec.2 z hz).1))
                have HO6 := Lib.hid hown6
                have HY6 := Lib.hid ((hgrow6.block YB (by rw [World.size_alloc]; omega) (fun e => by have := (HNO.out YB e.symm).2; omega)).trans ((Below.heap_alloc w2 _ _ hy).trans HY2.out))
                have HM6 := Lib.hid (show M ≤ w6.heap.size by rw [HM.out]; exact HB6.out.size)
                clear hm1 hm2
                have hm1 := HM12.out.1
                have hm2 := HM12.out.2
                clear hown6 hgrow6 x0 x1 x2 y0 y1 y2 hx hy
                have y0 : w6.cell? ⟨YB, 0, none⟩ = some (.int .i64 y.f) := cell_of_blk HY6.out rfl
                have y1 : w6.cell? ⟨YB, 1, none⟩ = some (.int .i64 y.t) := cell_of_blk HY6.out rfl
                have y2 : w6.cell? ⟨YB, 2, none⟩ = some (.int .i64 y.n) := cell_of_blk HY6.out rfl
                have hy := cell_lt y0
                have hM6 := HM6.out
                go_wp2_with (at_builtin; refine wpList_append_own _ rfl _ _ 28 rfl M 54 i0 _ 3 24 Try.underlying28 hi0 hz0 hz1 hz2 rfl (by omega) _ _ _ rfl (owns_keep HO6.out (fun z hz => Below.heap_alloc w6 _ _ ((owns_shape (HO6.out)).choose_spec.choose_spec.2 z hz).2)) ⟨w6.heap.size, 0, none⟩ 1 1 [.int .i64 y.f, .int .i64 y.t, .int .i64 y.n] rfl rfl (World.news_of_block (cs := #[.int .i64 y.f, .int .i64 y.t, .int .i64 y.n]) (t := 54) (fr := (0, 0)) (alloc_last _ _)) (by simp [Value.oneCell']) hm1 hm2 (by rw [World.size_alloc]; omega) ?_; intro v7 w7 hown7 hgrow7 _)
                have HB7 := Lib.hid ((HB6.out.alloc hM6 _).grown hgrow7 (by rw [World.size_alloc]; omega) (fun z hz => ((owns_shape HO6.out).choose_spec.choose_spec.2 z hz).1))
                have HO7 := Lib.hid hown7
                clear hown7 hgrow7 y0 y1 y2
                go_wp2_with fail
                go_roundw
                case rel => exact ⟨k + 1, n ++ [x, y], true, by omega, by go_num, rfl, Lib.hid (by rw [HST.out]; unfold stS; rw [if_neg (by rintro (h | h); exact absurd h (by simp); exact HNEQ.out h), if_pos HRR.out]), HB7, Lib.hid (by rw [show n ++ [x, y] = n ++ [x] ++ [y] by simp, flatC_push, flatC_push, List.length_append, List.length_append]; exact HO7.out)⟩
                case measure => simp [intOf]; omega
        · obtain rfl : k = O.length := by omega
          have HEND := Lib.hid (stS_ins ltMb x O [])
          rw [List.take_of_length_le (Nat.le_refl _)] at HF
          rw [HF.out] at HEND
          have HBE := Lib.hid (HBs.out.trans (HBx.out.mono HMN.out))
          cases d with
          | true =>
            go_wp2_with fail
            go_roundw
            case rel =>
              refine ⟨j + 1, by omega, by go_num, HBE, Lib.hid ?_⟩
              have e : n = insS ltMb x O := by simpa using HEND.out
              rw [HT.out, ← e]
              exact owns_base HOx.out HMN.out
            case measure => simp [intOf]; omega
          | false =>
            have x0 : wr.cell? ⟨XB, 0, none⟩ = some (.int .i64 x.f) := cell_of_blk HBX2.out rfl
            have x1 : wr.cell? ⟨XB, 1, none⟩ = some (.int .i64 x.t) := cell_of_blk HBX2.out rfl
            have x2 : wr.cell? ⟨XB, 2, none⟩ = some (.int .i64 x.n) := cell_of_blk HBX2.out rfl
            have hx := cell_lt x0
            have hMW := HMW.out
            go_wp2_with (at_builtin; refine wpList_append_own _ rfl _ _ 28 rfl M 54 i0 _ 3 24 Try.underlying28 hi0 hz0 hz1 hz2 rfl (by omega) _ _ _ rfl (owns_keep HOx.out (fun z hz => Below.heap_alloc wr _ _ ((owns_shape (HOx.out)).choose_spec.choose_spec.2 z hz).2)) ⟨wr.heap.size, 0, none⟩ 1 1 [.int .i64 x.f, .int .i64 x.t, .int .i64 x.n] rfl rfl (World.news_of_block (cs := #[.int .i64 x.f, .int .i64 x.t, .int .i64 x.n]) (t := 54) (fr := (0, 0)) (alloc_last _ _)) (by simp [Value.oneCell']) hm1 hm2 (by rw [World.size_alloc]; omega) ?_; intro v6 w6 hown6 hgrow6 _)
            have HB6 := Lib.hid ((HBx.out.alloc hMW _).grown hgrow6 (by rw [World.size_alloc]; omega) (fun z hz => ((owns_shape HOx.out).choose_spec.choose_spec.2 z hz).1))
            have HO6 := Lib.hid hown6
            clear hown6 hgrow6 x0 x1 x2
            go_wp2_with fail
            go_roundw
            case rel =>
              refine ⟨j + 1, by omega, by go_num, Lib.hid (HBs.out.trans (HB6.out.mono HMN.out)), Lib.hid ?_⟩
              have e : n ++ [x] = insS ltMb x O := by simpa using HEND.out
              rw [HT.out, ← e, flatC_push, List.length_append]
              exact owns_base HO6.out HMN.out
            case measure => simp [intOf]; omega
    · obtain rfl : j = l.length := by omega
      rw [List.take_of_length_le (Nat.le_refl _)] at HO
      go_wp2_with fail
      go_ret
      exact ⟨_, rfl, HO.out, by rw [HN.out]; rw [HN.out] at HB; exact HB.out⟩
end Go.Proofs.Ytemeppfikpafbaa

