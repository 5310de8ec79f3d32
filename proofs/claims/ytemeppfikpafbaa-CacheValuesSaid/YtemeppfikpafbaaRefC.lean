/- The reference's list of entries: Within (88), Put (41), Get (43). -/
import Derived.Test.YtemeppfikpafbaaPlyP
import Derived.Test.YtemeppfikpafbaaAppliesW
import Derived.Deep.DeepCutAuto
namespace Go.Proofs.Ytemeppfikpafbaa
open Go.RowKit
theorem wp_append_rowC {w : World} {o : Oper} {a : Act} {K : Act → World → Prop} {Q : Exit → Act → World → Prop} (s x : Operand) (t : TypeId)
    (ho : o.op = .call { callee := .builtin .append, args := #[s, x], argTypes := #[t, t] })
    (base : Nat) (e : TypeId) (i : TypeInfo) (z : Value) (size bytes : Nat) (ht : Try.prog.underlying t = some (.slice e)) (hi : Try.prog.info? e = some i) (hz : i.zero = some z)
    (hsize : i.size = size) (hby : i.bytes = bytes) (hzs : z.cells.size = size) (hsz : 0 < size)
    (v : Value) (n : Nat) (xs : List Value) (hs : a.eval s = v) (hown : w.ownsRow base e size v n xs)
    (xv : Value) (m : Nat) (news : List Value) (hx : a.eval x = xv) (hrow : Row anyB w size m xv news) (hnil : NilA xv) (h1 : ∀ u ∈ news, u.oneCell' = true)
    (h63 : n + m ≤ maxLen) (hbytes : (n + m) * bytes ≤ 140737488355328) (hbase : base ≤ w.heap.size)
    (h : ∀ v' w', w'.ownsRow base e size v' (n + m) (xs ++ news) → w.grownBy w' v.ownBlock → K (a.put o.dst v') w') : o.wp Try.prog a w K Q := by
  obtain ⟨xa, xc, rfl, _⟩ := hrow.shape
  cases xa with
  | none =>
    obtain rfl := hnil _ _ rfl
    have hm : m = 0 := by
      rcases Nat.eq_zero_or_pos m with h0 | h0
      · exact h0
      · obtain ⟨_, _, he, _⟩ := hrow.at (by omega); cases he
    subst hm
    have hn : news = [] := List.length_eq_zero_iff.1 (by rw [hrow.1]; omega)
    subst hn
    have hrun := run_append_owned_none (P := Try.prog) (w := w) base t o.type e i size ht hi v n xs hown
    unfold Oper.wp
    simp [execOp, ho, resolve, invoke, builtin, hs, hx, hrun, Result.andThen]
    exact h v w (by simpa using hown) (World.grownBy.refl _ _)
  | some ta =>
    refine wp_append_own w s x t ho base e i z size bytes ht hi hz hsize hby hzs hsz v n xs hs hown ta m xc news hx hrow.1 (fun j u hj => ?_) h1 h63 hbytes hbase fun v' w' h2 h3 _ => h v' w' h2 h3
    have hne : m ≠ 0 := by
      intro e
      have : news = [] := List.length_eq_zero_iff.1 (by rw [hrow.1, e]; omega)
      rw [this] at hj; simp at hj
    obtain ⟨b2, off2, he, _, _, hc2⟩ := hrow.at hne
    cases he
    rw [Addr.add_lit]
    exact hc2 j u hj
theorem Row.of_blk1 {w : World} {B : Nat} {c0 c1 c2 c3 : Value} {T : TypeId} (h : w.heap[B]? = some (.cells #[c0, c1, c2, c3] T)) : Row anyB w 4 1 (.slice (some ⟨B, 0, none⟩) 1 1) [c0, c1, c2, c3] := by
  refine ⟨rfl, some ⟨B, 0, none⟩, 1, rfl, Nat.le_refl _, fun _ => ⟨B, 0, rfl, trivial, fun j u hj => ?_⟩⟩
  rw [Nat.zero_add]
  refine cell_of_blk h ?_
  rw [← Array.getElem?_toList]; exact hj
theorem info68 : (Try.prog.info? 68).map (fun i => (i.zero, i.size, i.bytes)) = some (some (.agg #[.int .u16 0, .int .u16 0, .int .u16 0, .bool false]), 4, 8) := by kernel_rfl
theorem eC_one1 (x : RE) : ∀ u ∈ eC x, u.oneCell' = true := by
  intro u hu
  simp [eC] at hu
  rcases hu with rfl | rfl | rfl | rfl <;> rfl
theorem eC_one (l : List RE) : ∀ u ∈ flatC eC l, u.oneCell' = true := by
  intro u hu
  unfold flatC at hu
  obtain ⟨x, _, hx⟩ := List.mem_flatMap.1 hu
  exact eC_one1 x u hx
def sliceLen : Value → Nat
  | .slice _ n _ => n
  | _ => 0
theorem within88_any (a b : Nat) (w : World) (ha : a < 65536) (hb : b < 65536) : Calls Try.prog 88 #[.int .u16 a, .int .u16 b] w fun e w' => e = .returned (.bool (decide (a &&& b = a))) ∧ w' = w := by
  have h1 := and_bits ha hb
  have t1 : ((((a &&& b : Nat) : Int)) == (a : Int)) = decide (a &&& b = a) := by rw [Bool.eq_iff_iff]; simp; omega
  generalize decide (a &&& b = a) = q at *
  generalize ((a &&& b : Nat) : Int) = A at *
  go_enter Try.func88, Try.ntmps88
  go_wp2_with fail
  go_ret
  exact ⟨rfl, rfl⟩
theorem slice63_from (a : Option Addr) (n cap : Nat) (hn : 0 < n) (hc : n ≤ cap) {S : Nat → Prop} {w : World} {l : List RE} (hl : l.length = n) (h : Row S w 4 n (.slice a n cap) (flatC eC l)) : ∃ a', (∀ W, (Instr.slice 63 (.slice a n cap) (some (.int .i64 1)) none none).run Try.prog W = .ok (.slice a' (n - 1) (cap - 1)) W) ∧ Row S w 4 (l.drop 1).length (.slice a' (n - 1) (cap - 1)) (flatC eC (l.drop 1)) ∧ NilA (.slice a' (n - 1) (cap - 1)) := by
  obtain ⟨b, off, rfl, _⟩ := h.at (by omega)
  have hdl : (l.drop 1).length = n - 1 := by rw [List.length_drop, hl]
  rw [hdl]
  by_cases e : cap = 1
  · obtain rfl : n = 1 := by omega
    subst e
    refine ⟨some ⟨b, off, none⟩, fun W => by simp [go_sem, sliced], ?_⟩
    rw [List.drop_of_length_le (by omega)]
    exact ⟨Row.nil _ _ _ _ _, fun n c e => (by cases e)⟩
  · refine ⟨some ⟨b, off + 1 * 4, none⟩, fun W => ?_, ?_⟩
    · simp [go_sem, sliced]
      rw [if_pos (by omega), if_neg e]
    · rw [flatC_drop eC_len]
      exact ⟨h.drop hn, fun n c e => (by cases e)⟩
structure InvRP (w1 : World) (l : List RE) (v : Value) (x : RE) (b0 b1 b2 b3 b4 b5 b6 : Bool) (x8 x9 x10 x11 x12 x13 x7 : Value) (W : World) : Prop where
  hl : Hid (More w1 W)
  g0 : b0 = true → b2 = false → ∃ B, x8 = .slice (some ⟨B, 0, none⟩) 0 0 ∧ w1.heap.size ≤ B ∧ W.heap[B]? = some (.cells #[] 68)
  g1 : b1 = true → x9 = v
  g2 : b2 = true → b5 = false → Hid (W.ownsRow w1.heap.size 68 4 x10 l.length (flatC eC l))
  g3 : b3 = true → x11 = .agg #[.int .u16 x.c, .int .u16 x.h, .int .u16 x.u, .bool x.v]
  g4 : b4 = true → b5 = false → ∃ B, x12 = .slice (some ⟨B, 0, none⟩) 1 1 ∧ W.heap[B]? = some (.cells #[.int .u16 x.c, .int .u16 x.h, .int .u16 x.u, .bool x.v] 68)
  g5 : b5 = true → Hid (W.ownsRow w1.heap.size 68 4 x13 (l.length + 1) (flatC eC (l ++ [x])))
  g6 : b6 = true → Hid (W.ownsRow w1.heap.size 68 4 x7 (l.length + 1) (flatC eC (l ++ [x])))
  d2_0 : b2 = true → b0 = true
  d5_2 : b5 = true → b2 = true
  d5_4 : b5 = true → b4 = true
  d6_5 : b6 = true → b5 = true
set_option maxRecDepth 100000 in
set_option maxHeartbeats 8000000 in
theorem refPut_any (l : List RE) (x : RE) (lim : Int) (v : Value) (w : World) (hll : l.length ≤ 1000) (h0 : 0 ≤ lim) (hlim : (l.length : Int) ≤ lim) (h : Row anyB w 4 l.length v (flatC eC l)) (hn : NilA v) :
    Calls Try.prog 41 #[v, .int .i64 lim, .agg #[.int .u16 x.c, .int .u16 x.h, .int .u16 x.u, .bool x.v]] w fun e w' => (∃ v', e = .returned v' ∧ Row (fun b => w.heap.size ≤ b) w' 4 (limE lim (l ++ [x])).length v' (flatC eC (limE lim (l ++ [x]))) ∧ NilA v') ∧ More w w' := by
  obtain ⟨va, vc, rfl, _⟩ := h.shape
  have HROW0 := Lib.hid h; clear h
  have HNIL := Lib.hid hn; clear hn
  have HLA := Lib.hid (show 0 + l.length ≤ maxLen ∧ (0 + l.length) * 8 ≤ 140737488355328 ∧ l.length + 1 ≤ maxLen ∧ (l.length + 1) * 8 ≤ 140737488355328 from ⟨by unfold maxLen; omega, by omega, by unfold maxLen; omega, by omega⟩)
  obtain ⟨i0, hi0, hz0, hz1, hz2⟩ := info_parts info68
  go_enter Try.func41, Try.ntmps41
  go_upto_region 1 with (fail)
  have HPB := Lib.hid (alloc_last w (.cells #[.int .u16 x.c, .int .u16 x.h, .int .u16 x.u, .bool x.v] 68))
  have HM1 := Lib.hid (more_alloc w (.cells #[.int .u16 x.c, .int .u16 x.h, .int .u16 x.u, .bool x.v] 68))
  obtain ⟨PB, HPE⟩ : ∃ PB, Hid (PB = w.heap.size) := ⟨_, Lib.hid rfl⟩
  rw [← HPE.out] at HPB ⊢
  generalize w.alloc (.cells #[.int .u16 x.c, .int .u16 x.h, .int .u16 x.u, .bool x.v] 68) = w1 at *
  have HROW := Lib.hid (HROW0.out.below HM1.out.below)
  go_cut [7] (fun t wx => Hid (More w1 wx) ∧ Hid (wx.ownsRow w1.heap.size 68 4 t (l.length + 1) (flatC eC (l ++ [x]))))
  case first =>
    have HL0 := Lib.hid (more_drew w1)
    refine wp_region_inv0 (fun iA il ia W => ∃ (b0 b1 b2 b3 b4 b5 b6 : Bool) (x8 x9 x10 x11 x12 x13 x7 : Value), il = #[b0, b1, b2, b3, b4, b5, b6] ∧ ia = (((((((iA.put (some 8) x8).put (some 9) x9).put (some 10) x10).put (some 11) x11).put (some 12) x12).put (some 13) x13).put (some 7) x7) ∧ InvRP w1 l (.slice va l.length vc) x b0 b1 b2 b3 b4 b5 b6 x8 x9 x10 x11 x12 x13 x7 W) (by kernel_rfl) (by kernel_rfl) ?size ?start ⟨?op0, ?op1, ?op2, ?op3, ?op4, ?op5, ?op6, trivial⟩ ?last
    case size =>
      intro _ _ _ h
      obtain ⟨b0, b1, b2, b3, b4, b5, b6, x8, x9, x10, x11, x12, x13, x7, rfl, rfl, _⟩ := h
      rfl
    case start =>
      exact ⟨false, false, false, false, false, false, false, _, _, _, _, _, _, _, rfl, (put_back (put_back (put_back (put_back (put_back (put_back (put_back rfl))))))), ⟨HL0, by simp, by simp, by simp, by simp, by simp, by simp, by simp, by simp, by simp, by simp, by simp⟩⟩
    case op0 =>
      refine InvOp.pass rfl fun il ia W h hl hd K hK0 => ?_
      obtain ⟨b0, b1, b2, b3, b4, b5, b6, x8, x9, x10, x11, x12, x13, x7, rfl, rfl, hJ⟩ := h
      have hb : b0 = false := hl
      subst hb
      clear hl
      have hK := fun (x8' x9' x10' x11' x12' x13' x7' : Value) (W' : World) h => hK0 _ W' ⟨true, b1, b2, b3, b4, b5, b6, x8', x9', x10', x11', x12', x13', x7', rfl, rfl, h⟩
      clear hK0 hd
      simp only [Act.put, List.setIfInBounds_toArray, List.set_cons_succ, List.set_cons_zero] at hK ⊢
      obtain rfl : b2 = false := by cases b2 with
        | false => rfl
        | true => exact absurd (hJ.d2_0 rfl) (by simp)
      obtain rfl : b5 = false := by cases b5 with
        | false => rfl
        | true => exact absurd (hJ.d5_2 rfl) (by simp)
      obtain rfl : b6 = false := by cases b6 with
        | false => rfl
        | true => exact absurd (hJ.d6_5 rfl) (by simp)
      go_simp
      exact hK _ _ _ _ _ _ _ _ { hJ with g0 := fun _ _ => ⟨W.heap.size, rfl, hJ.hl.out.size, alloc_last _ _⟩, d2_0 := fun _ => rfl, g2 := fun h => (by cases h), g5 := fun h => (by cases h), g6 := fun h => (by cases h), hl := Lib.hid (more_trans hJ.hl.out (more_alloc W _)), g4 := fun hb => fun h' => (by obtain ⟨B, e, h2⟩ := (hJ.g4 hb) h'; exact ⟨B, e, ((more_alloc W _).block (blk_lt h2)).trans h2⟩) }
    case op1 =>
      refine InvOp.pass rfl fun il ia W h hl hd K hK0 => ?_
      obtain ⟨b0, b1, b2, b3, b4, b5, b6, x8, x9, x10, x11, x12, x13, x7, rfl, rfl, hJ⟩ := h
      have hb : b1 = false := hl
      subst hb
      clear hl
      have hK := fun (x8' x9' x10' x11' x12' x13' x7' : Value) (W' : World) h => hK0 _ W' ⟨b0, true, b2, b3, b4, b5, b6, x8', x9', x10', x11', x12', x13', x7', rfl, rfl, h⟩
      clear hK0 hd
      simp only [Act.put, List.setIfInBounds_toArray, List.set_cons_succ, List.set_cons_zero] at hK ⊢
      go_simp
      exact hK _ _ _ _ _ _ _ _ { hJ with g1 := fun _ => rfl }
    case op2 =>
      refine InvOp.pass rfl fun il ia W h hl hd K hK0 => ?_
      obtain ⟨b0, b1, b2, b3, b4, b5, b6, x8, x9, x10, x11, x12, x13, x7, rfl, rfl, hJ⟩ := h
      have hb : b2 = false := hl
      subst hb
      clear hl
      have hb : b0 = true := hd _ (.head _) rfl
      subst hb
      have hb : b1 = true := hd _ (.tail _ (.head _)) rfl
      subst hb
      have hK := fun (x8' x9' x10' x11' x12' x13' x7' : Value) (W' : World) h => hK0 _ W' ⟨true, true, true, b3, b4, b5, b6, x8', x9', x10', x11', x12', x13', x7', rfl, rfl, h⟩
      clear hK0 hd
      simp only [Act.put, List.setIfInBounds_toArray, List.set_cons_succ, List.set_cons_zero] at hK ⊢
      obtain rfl := hJ.g1 rfl
      obtain rfl : b5 = false := by cases b5 with
        | false => rfl
        | true => exact absurd (hJ.d5_2 rfl) (by simp)
      obtain rfl : b6 = false := by cases b6 with
        | false => rfl
        | true => exact absurd (hJ.d6_5 rfl) (by simp)
      obtain ⟨B, rfl, hB, hblk⟩ := hJ.g0 rfl rfl
      have HO := Lib.hid (show W.ownsRow w1.heap.size 68 4 (.slice (some ⟨B, 0, none⟩) 0 0) 0 [] from ⟨by simp, Or.inr ⟨B, 0, #[], rfl, hB, hblk, Nat.le_refl _, by unfold maxLen; omega, by simp, by simp⟩⟩)
      refine wp_append_rowC _ _ _ rfl w1.heap.size 68 i0 _ 4 8 Try.underlying63 hi0 hz0 hz1 hz2 rfl (by omega) _ 0 [] rfl HO.out _ l.length (flatC eC l) rfl (HROW.out.below hJ.hl.out.below) HNIL.out (eC_one l) HLA.out.1 HLA.out.2.1 hJ.hl.out.size ?_
      intro v6 w6 hown6 hgrow6
      simp only [Act.put, List.setIfInBounds_toArray, List.set_cons_succ, List.set_cons_zero]
      exact hK _ _ _ _ _ _ _ _ { hJ with hl := Lib.hid (moreGrown hJ.hl.out hgrow6 (fun b e => (by cases e; exact hB))), g0 := fun _ h => absurd h (by simp), g2 := fun _ _ => Lib.hid (by simpa using hown6), g4 := fun hb h' => (by obtain ⟨B4, e, h4⟩ := hJ.g4 hb h'; exact ⟨B4, e, (hgrow6.block B4 (blk_lt h4) (fun e' => by cases e'; rw [h4] at hblk; simp at hblk)).trans h4⟩), d2_0 := fun _ => rfl, d5_2 := fun _ => rfl, g5 := fun h => (by cases h), g6 := fun h => (by cases h) }
    case op3 =>
      refine InvOp.pass rfl fun il ia W h hl hd K hK0 => ?_
      obtain ⟨b0, b1, b2, b3, b4, b5, b6, x8, x9, x10, x11, x12, x13, x7, rfl, rfl, hJ⟩ := h
      have hb : b3 = false := hl
      subst hb
      clear hl
      have hK := fun (x8' x9' x10' x11' x12' x13' x7' : Value) (W' : World) h => hK0 _ W' ⟨b0, b1, b2, true, b4, b5, b6, x8', x9', x10', x11', x12', x13', x7', rfl, rfl, h⟩
      clear hK0 hd
      simp only [Act.put, List.setIfInBounds_toArray, List.set_cons_succ, List.set_cons_zero] at hK ⊢
      have k0 := hJ.hl.out.cell (cell_of_blk HPB.out (show (#[.int .u16 x.c, .int .u16 x.h, .int .u16 x.u, .bool x.v] : Array Value)[0]? = some (.int .u16 x.c) from rfl))
      have k1 := hJ.hl.out.cell (cell_of_blk HPB.out (show (#[.int .u16 x.c, .int .u16 x.h, .int .u16 x.u, .bool x.v] : Array Value)[1]? = some (.int .u16 x.h) from rfl))
      have k2 := hJ.hl.out.cell (cell_of_blk HPB.out (show (#[.int .u16 x.c, .int .u16 x.h, .int .u16 x.u, .bool x.v] : Array Value)[2]? = some (.int .u16 x.u) from rfl))
      have k3 := hJ.hl.out.cell (cell_of_blk HPB.out (show (#[.int .u16 x.c, .int .u16 x.h, .int .u16 x.u, .bool x.v] : Array Value)[3]? = some (.bool x.v) from rfl))
      go_simp
      exact hK _ _ _ _ _ _ _ _ { hJ with g3 := fun _ => rfl }
    case op4 =>
      refine InvOp.pass rfl fun il ia W h hl hd K hK0 => ?_
      obtain ⟨b0, b1, b2, b3, b4, b5, b6, x8, x9, x10, x11, x12, x13, x7, rfl, rfl, hJ⟩ := h
      have hb : b4 = false := hl
      subst hb
      clear hl
      have hb : b3 = true := hd _ (.head _) rfl
      subst hb
      have hK := fun (x8' x9' x10' x11' x12' x13' x7' : Value) (W' : World) h => hK0 _ W' ⟨b0, b1, b2, true, true, b5, b6, x8', x9', x10', x11', x12', x13', x7', rfl, rfl, h⟩
      clear hK0 hd
      simp only [Act.put, List.setIfInBounds_toArray, List.set_cons_succ, List.set_cons_zero] at hK ⊢
      obtain rfl := hJ.g3 rfl
      obtain rfl : b5 = false := by cases b5 with
        | false => rfl
        | true => exact absurd (hJ.d5_4 rfl) (by simp)
      obtain rfl : b6 = false := by cases b6 with
        | false => rfl
        | true => exact absurd (hJ.d6_5 rfl) (by simp)
      go_simp
      exact hK _ _ _ _ _ _ _ _ { hJ with g4 := fun _ _ => ⟨W.heap.size, rfl, alloc_last _ _⟩, d5_4 := fun _ => rfl, g5 := fun h => (by cases h), g6 := fun h => (by cases h), hl := Lib.hid (more_trans hJ.hl.out (more_alloc W _)), g0 := fun hb => fun h' => (by obtain ⟨B, e, h1, h2⟩ := (hJ.g0 hb) h'; exact ⟨B, e, h1, ((more_alloc W _).block (blk_lt h2)).trans h2⟩), g2 := fun hb => fun h' => Lib.hid (owns_keep ((hJ.g2 hb) h').out (fun z hz => (more_alloc W _).block ((owns_shape ((hJ.g2 hb) h').out).choose_spec.choose_spec.2 z hz).2)) }
    case op5 =>
      refine InvOp.pass rfl fun il ia W h hl hd K hK0 => ?_
      obtain ⟨b0, b1, b2, b3, b4, b5, b6, x8, x9, x10, x11, x12, x13, x7, rfl, rfl, hJ⟩ := h
      have hb : b5 = false := hl
      subst hb
      clear hl
      have hb : b2 = true := hd _ (.head _) rfl
      subst hb
      have hb : b4 = true := hd _ (.tail _ (.head _)) rfl
      subst hb
      have hK := fun (x8' x9' x10' x11' x12' x13' x7' : Value) (W' : World) h => hK0 _ W' ⟨b0, b1, true, b3, true, true, b6, x8', x9', x10', x11', x12', x13', x7', rfl, rfl, h⟩
      clear hK0 hd
      simp only [Act.put, List.setIfInBounds_toArray, List.set_cons_succ, List.set_cons_zero] at hK ⊢
      obtain rfl : b6 = false := by cases b6 with
        | false => rfl
        | true => exact absurd (hJ.d6_5 rfl) (by simp)
      obtain ⟨B4, rfl, h4⟩ := hJ.g4 rfl rfl
      have HO := hJ.g2 rfl rfl
      refine wp_append_rowC _ _ _ rfl w1.heap.size 68 i0 _ 4 8 Try.underlying63 hi0 hz0 hz1 hz2 rfl (by omega) _ l.length (flatC eC l) rfl HO.out _ 1 [.int .u16 x.c, .int .u16 x.h, .int .u16 x.u, .bool x.v] rfl (Row.of_blk1 h4) (fun n c e => (by cases e)) (eC_one1 x) HLA.out.2.2.1 HLA.out.2.2.2 hJ.hl.out.size ?_
      intro v6 w6 hown6 hgrow6
      simp only [Act.put, List.setIfInBounds_toArray, List.set_cons_succ, List.set_cons_zero]
      have hm6 := moreGrown hJ.hl.out hgrow6 (fun b e => ((owns_shape HO.out).choose_spec.choose_spec.2 b e).1)
      exact hK _ _ _ _ _ _ _ _ { hJ with hl := Lib.hid hm6, g0 := fun _ h => absurd h (by simp), g2 := fun _ h => absurd h (by simp), g4 := fun _ h => absurd h (by simp), g5 := fun _ => Lib.hid (by rw [flatC_push]; exact hown6), d5_2 := fun _ => rfl, d5_4 := fun _ => rfl, d6_5 := fun _ => rfl, g6 := fun h => (by cases h) }
    case op6 =>
      refine InvOp.pass rfl fun il ia W h hl hd K hK0 => ?_
      obtain ⟨b0, b1, b2, b3, b4, b5, b6, x8, x9, x10, x11, x12, x13, x7, rfl, rfl, hJ⟩ := h
      have hb : b6 = false := hl
      subst hb
      clear hl
      have hb : b5 = true := hd _ (.head _) rfl
      subst hb
      have hb : b0 = true := hd _ (.tail _ (.tail _ (.head _))) rfl
      subst hb
      have hb : b1 = true := hd _ (.tail _ (.tail _ (.tail _ (.head _)))) rfl
      subst hb
      have hb : b2 = true := hd _ (.tail _ (.tail _ (.tail _ (.tail _ (.head _))))) rfl
      subst hb
      have hb : b3 = true := hd _ (.tail _ (.tail _ (.tail _ (.tail _ (.tail _ (.head _)))))) rfl
      subst hb
      have hb : b4 = true := hd _ (.tail _ (.tail _ (.tail _ (.tail _ (.tail _ (.tail _ (.head _))))))) rfl
      subst hb
      have hK := fun (x8' x9' x10' x11' x12' x13' x7' : Value) (W' : World) h => hK0 _ W' ⟨true, true, true, true, true, true, true, x8', x9', x10', x11', x12', x13', x7', rfl, rfl, h⟩
      clear hK0 hd
      simp only [Act.put, List.setIfInBounds_toArray, List.set_cons_succ, List.set_cons_zero] at hK ⊢
      obtain rfl := hJ.g1 rfl
      obtain rfl := hJ.g3 rfl
      go_simp
      exact hK _ _ _ _ _ _ _ _ { hJ with g6 := fun _ => hJ.g5 rfl, d6_5 := fun _ => rfl }
    case last =>
      intro il ia W h hall
      obtain ⟨b0, b1, b2, b3, b4, b5, b6, x8, x9, x10, x11, x12, x13, x7, rfl, rfl, hJ⟩ := h
      simp only [Act.put, List.setIfInBounds_toArray, List.set_cons_succ, List.set_cons_zero]
      have hb : b0 = true := hall 0 (Nat.le_of_ble_eq_true rfl)
      subst hb
      have hb : b1 = true := hall 1 (Nat.le_of_ble_eq_true rfl)
      subst hb
      have hb : b2 = true := hall 2 (Nat.le_of_ble_eq_true rfl)
      subst hb
      have hb : b3 = true := hall 3 (Nat.le_of_ble_eq_true rfl)
      subst hb
      have hb : b4 = true := hall 4 (Nat.le_of_ble_eq_true rfl)
      subst hb
      have hb : b5 = true := hall 5 (Nat.le_of_ble_eq_true rfl)
      subst hb
      have hb : b6 = true := hall 6 (Nat.le_of_ble_eq_true rfl)
      subst hb
      clear hall
      have ho := hJ.g6 rfl
      go_wp2_with fail
      go_meet
      exact ⟨hJ.hl, ho⟩

  case rest =>
    obtain ⟨HMC, HO⟩ := hcut
    obtain ⟨w4, rfl⟩ : ∃ w4 : World, w4 = wc := ⟨_, rfl⟩
    have HLL := Lib.hid (show (l ++ [x]).length = l.length + 1 by rw [List.length_append, List.length_singleton])
    have HRW := Lib.hid (show Row (fun b => w.heap.size ≤ b) w4 4 (l ++ [x]).length _ (flatC eC (l ++ [x])) by rw [HLL.out]; exact (Row.of_owns HO.out).mono (fun b hb => Nat.le_trans HM1.out.size hb) (fun _ _ _ _ h => h))
    have HNW := Lib.hid (owns_nil HO.out)
    obtain ⟨oa, oc, rfl, _⟩ := owns_shape HO.out
    obtain ⟨L, HLX⟩ : ∃ L, Hid (L = l ++ [x]) := ⟨_, Lib.hid rfl⟩
    rw [← HLX.out] at HLL HRW
    go_wp2_with fail
    go_loopw [7] (fun t wr => ∃ (d n : Nat) (a : Option Addr) (cap : Nat), t = .slice a n cap ∧ d ≤ 1 ∧ n + d = l.length + 1 ∧ (d = 1 → lim < (l.length : Int) + 1) ∧ wr = w4 ∧ Hid (Row (fun b => w.heap.size ≤ b) w4 4 (L.drop d).length (.slice a n cap) (flatC eC (L.drop d))) ∧ Hid (NilA (.slice a n cap))) (fun t _ => sliceLen t)
    case atStart => exact ⟨0, _, _, _, rfl, by omega, rfl, (fun h => by cases h), rfl, Lib.hid (by rw [List.drop_zero]; exact HRW.out), HNW⟩
    case round =>
      obtain ⟨d, n, a, cap, rfl, hd1, hnd, hdl, rfl, HR, HNZ⟩ := hrel
      have HDL := Lib.hid (show (L.drop d).length = n by rw [List.length_drop, HLL.out]; omega)
      have hcn : n ≤ cap := by
        have h := HR.out
        rw [HDL.out] at h
        obtain ⟨_, _, e, hc⟩ := h.shape
        cases e
        exact hc
      by_cases hlt : lim < (n : Int)
      · obtain rfl : d = 0 := by omega
        obtain rfl : n = l.length + 1 := by omega
        obtain ⟨a2, hs2, hr2, hna⟩ := slice63_from a (l.length + 1) cap (by omega) hcn HDL.out (by have := HR.out; rw [HDL.out] at this; exact this)
        rw [List.drop_zero] at hr2
        have HR2 := Lib.hid hr2
        have HN2 := Lib.hid hna
        clear hr2 hna
        go_wp2_with fail
        go_roundw
        case rel => exact ⟨1, _, _, _, rfl, by omega, by omega, fun _ => by omega, trivial, HR2, HN2⟩
        case measure => simp [sliceLen]
      · have HLE := Lib.hid (show limE lim L = L.drop d by
          unfold limE
          rw [HLL.out]
          by_cases e : d = 0
          · subst e; rw [if_pos (by omega), List.drop_zero]
          · obtain rfl : d = 1 := by omega
            rw [if_neg (by have := hdl rfl; omega)])
        go_wp2_with fail
        go_ret
        exact ⟨⟨_, rfl, by rw [← HLX.out, HLE.out]; exact HR.out, HNZ.out⟩, more_trans HM1.out HMC.out⟩
set_option maxRecDepth 100000 in
set_option maxHeartbeats 4000000 in
theorem refGet_any (l : List RE) (a k : Nat) (v : Value) (w : World) (hl : l.length ≤ 100000) (ha : a < 65536) (hok : ∀ x ∈ l, x.c < 65536 ∧ x.u < 65536) (h : Row anyB w 4 l.length v (flatC eC l)) :
    Calls Try.prog 43 #[v, .int .u16 a, .int .u16 k] w fun e w' => e = .returned (.tuple #[.bool (ansR (refGet l a k)).1, .bool (ansR (refGet l a k)).2]) ∧ w' = w := by
  obtain ⟨va, vc, rfl, _⟩ := h.shape
  have HR := Lib.hid h; clear h
  have HOK := Lib.hid hok; clear hok
  have HA := Lib.hid ha
  go_enter Try.func43, Try.ntmps43
  go_wp2_with fail
  go_loopw [8] (fun i wr => ∃ m : Nat, m ≤ l.length ∧ i = .int .i64 ((m : Int) - 1) ∧ wr = w ∧ Hid (∀ e ∈ l.drop m, hitR a k e = false)) (fun i _ => (intOf i + 1).toNat)
  case atStart => exact ⟨l.length, Nat.le_refl _, rfl, rfl, Lib.hid (fun e he => by rw [List.drop_length] at he; simp at he)⟩
  case round =>
    obtain ⟨m, hm, rfl, rfl, HN⟩ := hrel
    rcases Nat.eq_zero_or_pos m with h0 | h0
    · subst h0
      rw [show (((0 : Nat) : Int) - 1) = -1 from rfl]
      have HG := Lib.hid (refGet_none (a := a) (k := k) (by rw [List.drop_zero] at HN; exact HN.out))
      go_wp2_with fail
      go_ret2
      rw [HG.out]
      exact ⟨rfl, rfl⟩
    · obtain ⟨i, rfl⟩ : ∃ i, m = i + 1 := ⟨m - 1, by omega⟩
      rw [show (((i + 1 : Nat) : Int) - 1) = (i : Int) by omega]
      have hil : i < l.length := by omega
      obtain ⟨b, off, rfl, _, hc⟩ := HR.out.atC eC_len hil
      have g0 := hc 0 (.int .u16 l[i].c) rfl
      have g1 := hc 1 (.int .u16 l[i].h) rfl
      have g2 := hc 2 (.int .u16 l[i].u) rfl
      have g3 := hc 3 (.bool l[i].v) rfl
      rw [Nat.add_zero] at g0
      clear hc
      have hxk := HOK.out _ (List.getElem_mem hil)
      have HGA := Lib.hid (fun (h : hitR a k l[i] = true) => refGet_at hil h HN.out)
      have HND := Lib.hid (show hitR a k l[i] = false → ∀ e ∈ l.drop i, hitR a k e = false from fun h e he => by
        rw [List.drop_eq_getElem_cons hil] at he
        rcases List.mem_cons.1 he with e1 | e1
        · rw [e1]; exact h
        · exact HN.out e e1)
      generalize l[i] = x at *
      have HW1 := Lib.hid (fun W => within88_any x.u a W hxk.2 HA.out)
      have HW2 := Lib.hid (fun W => within88_any a x.c W HA.out hxk.1)
      have hbg := cell_lt g0
      have HHR := Lib.hid (show hitR a k x = (decide (x.h = k) && (decide (x.u &&& a = x.u) && decide (a &&& x.c = a))) from rfl)
      rw [HHR.out] at HGA HND
      generalize decide (x.u &&& a = x.u) = q1 at *
      generalize decide (a &&& x.c = a) = q2 at *
      clear hxk HHR
      by_cases hh : x.h = k
      · subst hh
        rw [decide_eq_true rfl, Bool.true_and] at HGA HND
        go_wp2_with fail
        refine (HW1.out _).mono ?_
        rintro e w1 ⟨rfl, rfl⟩
        cases q1 with
        | false =>
          have HD := Lib.hid (HND.out rfl)
          go_wp2_with fail
          go_roundw
          case rel => exact ⟨i, by omega, by go_num, trivial, HD⟩
          case measure => simp [intOf]
        | true =>
          go_wp2_with fail
          refine (HW2.out _).mono ?_
          rintro e w1 ⟨rfl, rfl⟩
          cases q2 with
          | false =>
            have HD := Lib.hid (HND.out rfl)
            go_wp2_with fail
            go_roundw
            case rel => exact ⟨i, by omega, by go_num, trivial, HD⟩
            case measure => simp [intOf]
          | true =>
            have HG := Lib.hid (HGA.out rfl)
            go_wp2_with fail
            go_ret2
            rw [HG.out]
            exact ⟨rfl, rfl⟩
      · rw [decide_eq_false hh, Bool.false_and] at HND
        have HD := Lib.hid (HND.out rfl)
        have hhi : ((x.h : Int) == (k : Int)) = false := by simp; omega
        clear HGA
        go_wp2_with fail
        go_roundw
        case rel => exact ⟨i, by omega, by go_num, trivial, HD⟩
        case measure => simp [intOf]
end Go.Proofs.Ytemeppfikpafbaa
