/- Texts RCmp, laid together. -/
import Derived.Deep.DeepCutAuto
import Derived.Test.YtemeppfikpafbaaRb
import Derived.Test.YtemeppfikpafbaaRc
/- ratio.Cmp (30) at degrees. -/
namespace Go.Proofs.Ytemeppfikpafbaa
open Go.RowKit
theorem okR_one {x : Int × Int} (h : OkR x) : 0 ≤ (oneR x).1 ∧ (oneR x).1 ≤ 1 ∧ 0 ≤ (oneR x).2 ∧ (oneR x).2 ≤ 1000 := by
  unfold oneR
  rcases h with h | h | h
  · rw [if_pos h]; simp
  · rw [if_neg (by rw [h]; simp), h]; simp
  · rw [if_neg (by intro e; rw [e] at h; simp at h)]; omega
/-- Two boxes of degrees, one behind the other. -/
structure Box2 (w : World) (b c : Nat) (x y : Int × Int) : Prop where
  x0 : w.cell? ⟨b, 0, none⟩ = some (.int .i64 x.1)
  x1 : w.cell? ⟨b, 1, none⟩ = some (.int .i64 x.2)
  y0 : w.cell? ⟨c, 0, none⟩ = some (.int .i64 y.1)
  y1 : w.cell? ⟨c, 1, none⟩ = some (.int .i64 y.2)
  f0 : w.frozen? ⟨b, 0, none⟩ = false
  f1 : w.frozen? ⟨b, 1, none⟩ = false
  g0 : w.frozen? ⟨c, 0, none⟩ = false
  g1 : w.frozen? ⟨c, 1, none⟩ = false
theorem Box2.lay {w w' : World} {b c : Nat} {x y : Int × Int} (h : Box2 w b c x y) (hl : Lay w w') : Box2 w' b c x y :=
  ⟨hl.1.cell h.x0, hl.1.cell h.x1, hl.1.cell h.y0, hl.1.cell h.y1, hl.1.frozen (cell_lt h.x0) h.f0, hl.1.frozen (cell_lt h.x1) h.f1, hl.1.frozen (cell_lt h.y0) h.g0, hl.1.frozen (cell_lt h.y1) h.g1⟩
theorem Box2.start (w : World) (x y : Int × Int) : Box2 ((w.alloc (.cells #[.int .i64 x.1, .int .i64 x.2] 32)).alloc (.cells #[.int .i64 y.1, .int .i64 y.2] 32)) w.heap.size (w.heap.size + 1) x y := by
  obtain ⟨h1, h2, _⟩ := boxed2 w (.cells #[.int .i64 x.1, .int .i64 x.2] 32) (.cells #[.int .i64 y.1, .int .i64 y.2] 32)
  exact ⟨cell_of_blk h1 rfl, cell_of_blk h1 rfl, cell_of_blk h2 rfl, cell_of_blk h2 rfl, thaw h1 _, thaw h1 _, thaw h2 _, thaw h2 _⟩
theorem Lay.setOwn {w w1 : World} (h : Lay w w1) {B o : Nat} (hB : w.heap.size ≤ B) (v : Value) : Lay w (w1.setCell ⟨B, o, none⟩ v) :=
  ⟨⟨h.1.os, h.1.tape, h.1.output, by have := h.1.size; simp only [World.setCell]; simpa using this, fun k hk hne => by rw [Below.heap_setCell _ _ _ _ (show k ≠ B by omega)]; exact World.grownBy.block h.1 k hk hne⟩, h.2⟩
theorem Box2.setX {w : World} {b c : Nat} {x y : Int × Int} (h : Box2 w b c x y) (hbc : b ≠ c) (z : Int × Int) : Box2 ((w.setCell ⟨b, 0, none⟩ (.int .i64 z.1)).setCell ⟨b, 1, none⟩ (.int .i64 z.2)) b c z y := by
  have n1 : ∀ (W : World) (o : Nat) (v : Value) (q : Nat), (W.setCell ⟨b, o, none⟩ v).cell? ⟨c, q, none⟩ = W.cell? ⟨c, q, none⟩ := fun W o v q => World.cell?_setCell_other _ _ _ _ (by intro e; cases e; exact hbc rfl)
  have e0 : (w.setCell ⟨b, 0, none⟩ (.int .i64 z.1)).cell? ⟨b, 1, none⟩ = some (.int .i64 x.2) := by rw [setCell_neq (by omega)]; exact h.x1
  refine ⟨?_, setCell_eq e0, by rw [n1, n1]; exact h.y0, by rw [n1, n1]; exact h.y1, ?_, ?_, ?_, ?_⟩
  · rw [setCell_neq (by omega)]; exact setCell_eq h.x0
  all_goals (rw [World.frozen?_setCell, World.frozen?_setCell])
  · exact h.f0
  · exact h.f1
  · exact h.g0
  · exact h.g1
theorem Box2.swap {w : World} {b c : Nat} {x y : Int × Int} (h : Box2 w b c x y) : Box2 w c b y x := ⟨h.y0, h.y1, h.x0, h.x1, h.g0, h.g1, h.f0, h.f1⟩
theorem Box2.setY {w : World} {b c : Nat} {x y : Int × Int} (h : Box2 w b c x y) (hbc : b ≠ c) (z : Int × Int) : Box2 ((w.setCell ⟨c, 0, none⟩ (.int .i64 z.1)).setCell ⟨c, 1, none⟩ (.int .i64 z.2)) b c x z := (h.swap.setX (Ne.symm hbc) z).swap
theorem Box2.far {W : World} {b c B : Nat} {x y : Int × Int} (h : Box2 W b c x y) (hb : b ≠ B) (hc : c ≠ B) (cs : List Value) : Box2 (setC W B 0 cs) b c x y := by
  have e1 := setC_block W B 0 cs hb
  have e2 := setC_block W B 0 cs hc
  have k1 : ∀ o, (setC W B 0 cs).cell? ⟨b, o, none⟩ = W.cell? ⟨b, o, none⟩ := fun o => World.cell?_of_block (w := W) (a := ⟨b, o, none⟩) e1
  have k2 : ∀ o, (setC W B 0 cs).cell? ⟨c, o, none⟩ = W.cell? ⟨c, o, none⟩ := fun o => World.cell?_of_block (w := W) (a := ⟨c, o, none⟩) e2
  refine ⟨by rw [k1]; exact h.x0, by rw [k1]; exact h.x1, by rw [k2]; exact h.y0, by rw [k2]; exact h.y1, ?_, ?_, ?_, ?_⟩ <;> rw [setC_frozen]
  · exact h.f0
  · exact h.f1
  · exact h.g0
  · exact h.g1
structure InvC4 (w : World) (bx : Nat) (x y : Int × Int) (p q : Int) (b0 b1 b2 b3 b4 b5 b6 b7 b8 b9 b10 b11 b12 b13 b14 b15 : Bool) (x19 x20 x21 x22 x23 x24 x25 x26 x27 x28 x29 x30 x5 x6 : Value) (W : World) : Prop where
  hl : Hid (Lay w W)
  hb : Hid (Box2 W bx (bx + 1) x y)
  g0 : b0 = true → x19 = .pointer (some ⟨bx, 0, none⟩)
  g1 : b1 = true → x20 = .int .i64 x.1
  g2 : b2 = true → x21 = .pointer (some ⟨bx + 1, 1, none⟩)
  g3 : b3 = true → x22 = .int .i64 y.2
  g4 : b4 = true → x23 = .int .u64 y.2
  g5 : b5 = true → x24 = .agg #[.bool false, .int .u64 0, .int .u64 p]
  g6 : b6 = true → x25 = .pointer (some ⟨bx + 1, 0, none⟩)
  g7 : b7 = true → x26 = .int .i64 y.1
  g8 : b8 = true → x27 = .pointer (some ⟨bx, 1, none⟩)
  g9 : b9 = true → x28 = .int .i64 x.2
  g10 : b10 = true → x29 = .int .u64 x.2
  g11 : b11 = true → x30 = .agg #[.bool false, .int .u64 0, .int .u64 q]
  g12 : b12 = true → Box W (bx + 2) x5 139 b14 [.bool false, .int .u64 0, .int .u64 0] [.bool false, .int .u64 0, .int .u64 p]
  g13 : b13 = true → Box W (bx + 2) x6 139 b15 [.bool false, .int .u64 0, .int .u64 0] [.bool false, .int .u64 0, .int .u64 q]
  hne : b12 = true → b13 = true → x5 ≠ x6
  d14 : b14 = true → b12 = true
  d15 : b15 = true → b13 = true
set_option maxRecDepth 100000 in
set_option maxHeartbeats 40000000 in
theorem cmpR_any (x y : Int × Int) (w : World) (hx : OkR x) (hy : OkR y) : Calls Try.prog 30 #[rA x, rA y] w fun e w' => e = .returned (.int .i64 (cmpR x y)) ∧ Lay w w' := by
  have HX := Lib.hid hx
  have HY := Lib.hid hy
  have HVX := Lib.hid (fun w => valid_any x w hx)
  have HVY := Lib.hid (fun w => valid_any y w hy)
  have HOX := Lib.hid (fun w => one_any x w hx)
  have HOY := Lib.hid (fun w => one_any y w hy)
  have HBX := Lib.hid (okR_one hx)
  have HBY := Lib.hid (okR_one hy)
  have HC := Lib.hid (show cmpI ((oneR x).1 * (oneR y).2) ((oneR y).1 * (oneR x).2) = cmpR x y from rfl)
  generalize cmpR x y = c at *
  clear hx hy HX HY
  unfold rA at *
  generalize oneR x = x' at *
  generalize oneR y = y' at *
  go_enter Try.func30, Try.ntmps30
  go_wp2_with fail
  have HB := Lib.hid (Box2.start w x y)
  have HL := Lib.hid ((Lay.alloc w (.cells #[.int .i64 x.1, .int .i64 x.2] 32)).trans (Lay.alloc _ (.cells #[.int .i64 y.1, .int .i64 y.2] 32)))
  generalize (w.alloc (.cells #[.int .i64 x.1, .int .i64 x.2] 32)).alloc (.cells #[.int .i64 y.1, .int .i64 y.2] 32) = w1 at *
  obtain ⟨a0, a1, b0, b1, _, _, _, _⟩ := HB.out
  go_wp2_with fail
  refine (HVX.out _).mono ?_
  rintro e w2 ⟨rfl, hl2⟩
  have HL2 := Lib.hid (HL.out.trans hl2)
  have HB2 := Lib.hid (HB.out.lay hl2)
  clear hl2 a0 a1 b0 b1 HB HL
  obtain ⟨a0, a1, b0, b1, _, _, _, _⟩ := HB2.out
  go_wp2_with fail
  refine (HVY.out _).mono ?_
  rintro e w3 ⟨rfl, hl3⟩
  have HL3 := Lib.hid (HL2.out.trans hl3)
  have HB3 := Lib.hid (HB2.out.lay hl3)
  clear hl3 a0 a1 b0 b1 HB2 HL2 HVX HVY
  have HBW := Lib.hid (Nat.le_refl w.heap.size)
  generalize hbx : w.heap.size = bx at *
  rw [← hbx] at HBW
  have HBW := Lib.hid (show w.heap.size ≤ bx by rw [hbx]; exact Nat.le_refl _)
  clear hbx
  go_upto_region 3 with (fail)
  go_cut [] (fun wx => Hid (Lay w wx) ∧ Hid (Box2 wx bx (bx + 1) x' y'))
  case first =>
    obtain ⟨a0, a1, b0, b1, f0, f1, g0, g1⟩ := HB3.out
    have HL := Lib.hid (HL3.out.trans (Lay.drew w3))
    have HB := Lib.hid (HB3.out.lay (Lay.drew w3))
    clear HL3 HB3
    go_region_law (first | (go_simp; go_at_call 74; refine (HOX.out _).mono ?_; rintro e w4 ⟨rfl, hl4⟩; have HL := Lib.hid (HL.out.trans hl4); have HB := Lib.hid (HB.out.lay hl4); clear hl4; obtain ⟨a0, a1, b0, b1, f0, f1, g0, g1⟩ := HB.out) | (go_simp; go_at_call 74; refine (HOY.out _).mono ?_; rintro e w4 ⟨rfl, hl4⟩; have HL := Lib.hid (HL.out.trans hl4); have HB := Lib.hid (HB.out.lay hl4); clear hl4; obtain ⟨a0, a1, b0, b1, f0, f1, g0, g1⟩ := HB.out))
    all_goals (go_wp2_with fail; go_meet)
    all_goals first
      | exact ⟨Lib.hid ((((HL.out.setOwn HBW.out _).setOwn HBW.out _).setOwn (Nat.le_succ_of_le HBW.out) _).setOwn (Nat.le_succ_of_le HBW.out) _), Lib.hid ((HB.out.setX (by omega) x').setY (by omega) y')⟩
      | exact ⟨Lib.hid ((((HL.out.setOwn (Nat.le_succ_of_le HBW.out) _).setOwn (Nat.le_succ_of_le HBW.out) _).setOwn HBW.out _).setOwn HBW.out _), Lib.hid ((HB.out.setY (by omega) y').setX (by omega) x')⟩
  case rest =>
    obtain ⟨HL, HB⟩ := hcut
    clear HL3 HB3 HOX HOY
    have HTX := Lib.hid (fun w => times_any x'.1 y'.2 w HBX.out.1 (by have := HBX.out.2.1; omega) HBY.out.2.2.1 HBY.out.2.2.2)
    have HTY := Lib.hid (fun w => times_any y'.1 x'.2 w HBY.out.1 (by have := HBY.out.2.1; omega) HBX.out.2.2.1 HBX.out.2.2.2)
    have HSX := Lib.hid (fun w => size_any x'.2 w HBX.out.2.2.1 (by have := HBX.out.2.2.2; omega))
    have HSY := Lib.hid (fun w => size_any y'.2 w HBY.out.2.2.1 (by have := HBY.out.2.2.2; omega))
    generalize x'.1 * y'.2 = p at *
    generalize y'.1 * x'.2 = q at *
    go_upto_region 4 with (fail)
    go_cut [5, 6] (fun s5 s6 wx => ∃ B C : Nat, s5 = .pointer (some ⟨B, 0, none⟩) ∧ s6 = .pointer (some ⟨C, 0, none⟩) ∧ Hid (Lay w wx) ∧ Hid (wx.heap[B]? = some (.cells #[.bool false, .int .u64 0, .int .u64 p] 139) ∧ wx.heap[C]? = some (.cells #[.bool false, .int .u64 0, .int .u64 q] 139)))
    case first =>
      have HLn := Lib.hid (HL.out.trans (Lay.drew wc))
      have HBn := Lib.hid (HB.out.lay (Lay.drew wc))
      clear HL HB
      refine wp_region_inv0 (fun A l a W => ∃ (b0 b1 b2 b3 b4 b5 b6 b7 b8 b9 b10 b11 b12 b13 b14 b15 : Bool) (x19 x20 x21 x22 x23 x24 x25 x26 x27 x28 x29 x30 x5 x6 : Value), l = #[b0, b1, b2, b3, b4, b5, b6, b7, b8, b9, b10, b11, b12, b13, b14, b15] ∧ a = ((((((((((((((A.put (some 19) x19).put (some 20) x20).put (some 21) x21).put (some 22) x22).put (some 23) x23).put (some 24) x24).put (some 25) x25).put (some 26) x26).put (some 27) x27).put (some 28) x28).put (some 29) x29).put (some 30) x30).put (some 5) x5).put (some 6) x6) ∧ InvC4 w bx x' y' p q b0 b1 b2 b3 b4 b5 b6 b7 b8 b9 b10 b11 b12 b13 b14 b15 x19 x20 x21 x22 x23 x24 x25 x26 x27 x28 x29 x30 x5 x6 W) (by kernel_rfl) (by kernel_rfl) ?size ?start ⟨?op0, ?op1, ?op2, ?op3, ?op4, ?op5, ?op6, ?op7, ?op8, ?op9, ?op10, ?op11, ?op12, ?op13, ?op14, ?op15, trivial⟩ ?last
      case size =>
        intro _ _ _ h
        obtain ⟨b0, b1, b2, b3, b4, b5, b6, b7, b8, b9, b10, b11, b12, b13, b14, b15, x19, x20, x21, x22, x23, x24, x25, x26, x27, x28, x29, x30, x5, x6, rfl, rfl, _⟩ := h
        rfl
      case start =>
        exact ⟨false, false, false, false, false, false, false, false, false, false, false, false, false, false, false, false, _, _, _, _, _, _, _, _, _, _, _, _, _, _, rfl, (put_back (put_back (put_back (put_back (put_back (put_back (put_back (put_back (put_back (put_back (put_back (put_back (put_back (put_back rfl)))))))))))))), ⟨HLn, HBn, by simp, by simp, by simp, by simp, by simp, by simp, by simp, by simp, by simp, by simp, by simp, by simp, by simp, by simp, by simp, by simp, by simp⟩⟩
      case op0 =>
        refine InvOp.pass rfl fun l a W h hl hd K hK0 => ?_
        obtain ⟨b0, b1, b2, b3, b4, b5, b6, b7, b8, b9, b10, b11, b12, b13, b14, b15, x19, x20, x21, x22, x23, x24, x25, x26, x27, x28, x29, x30, x5, x6, rfl, rfl, hJ⟩ := h
        have hb : b0 = false := hl
        subst hb
        clear hl
        have hK := fun (x19' x20' x21' x22' x23' x24' x25' x26' x27' x28' x29' x30' x5' x6' : Value) (W' : World) h => hK0 _ W' ⟨true, b1, b2, b3, b4, b5, b6, b7, b8, b9, b10, b11, b12, b13, b14, b15, x19', x20', x21', x22', x23', x24', x25', x26', x27', x28', x29', x30', x5', x6', rfl, rfl, h⟩
        clear hK0 hd
        simp only [Act.put, List.setIfInBounds_toArray, List.set_cons_succ, List.set_cons_zero] at hK ⊢
        go_simp
        exact hK _ _ _ _ _ _ _ _ _ _ _ _ _ _ _ { hJ with g0 := fun _ => rfl }
      case op1 =>
        refine InvOp.pass rfl fun l a W h hl hd K hK0 => ?_
        obtain ⟨b0, b1, b2, b3, b4, b5, b6, b7, b8, b9, b10, b11, b12, b13, b14, b15, x19, x20, x21, x22, x23, x24, x25, x26, x27, x28, x29, x30, x5, x6, rfl, rfl, hJ⟩ := h
        have hb : b1 = false := hl
        subst hb
        clear hl
        have hb : b0 = true := hd _ (.head _) rfl
        subst hb
        have hK := fun (x19' x20' x21' x22' x23' x24' x25' x26' x27' x28' x29' x30' x5' x6' : Value) (W' : World) h => hK0 _ W' ⟨true, true, b2, b3, b4, b5, b6, b7, b8, b9, b10, b11, b12, b13, b14, b15, x19', x20', x21', x22', x23', x24', x25', x26', x27', x28', x29', x30', x5', x6', rfl, rfl, h⟩
        clear hK0 hd
        simp only [Act.put, List.setIfInBounds_toArray, List.set_cons_succ, List.set_cons_zero] at hK ⊢
        obtain rfl := hJ.g0 rfl
        obtain ⟨a0, a1, c0, c1, _, _, _, _⟩ := hJ.hb.out
        go_simp
        exact hK _ _ _ _ _ _ _ _ _ _ _ _ _ _ _ { hJ with g1 := fun _ => rfl }
      case op2 =>
        refine InvOp.pass rfl fun l a W h hl hd K hK0 => ?_
        obtain ⟨b0, b1, b2, b3, b4, b5, b6, b7, b8, b9, b10, b11, b12, b13, b14, b15, x19, x20, x21, x22, x23, x24, x25, x26, x27, x28, x29, x30, x5, x6, rfl, rfl, hJ⟩ := h
        have hb : b2 = false := hl
        subst hb
        clear hl
        have hK := fun (x19' x20' x21' x22' x23' x24' x25' x26' x27' x28' x29' x30' x5' x6' : Value) (W' : World) h => hK0 _ W' ⟨b0, b1, true, b3, b4, b5, b6, b7, b8, b9, b10, b11, b12, b13, b14, b15, x19', x20', x21', x22', x23', x24', x25', x26', x27', x28', x29', x30', x5', x6', rfl, rfl, h⟩
        clear hK0 hd
        simp only [Act.put, List.setIfInBounds_toArray, List.set_cons_succ, List.set_cons_zero] at hK ⊢
        go_simp
        exact hK _ _ _ _ _ _ _ _ _ _ _ _ _ _ _ { hJ with g2 := fun _ => rfl }
      case op3 =>
        refine InvOp.pass rfl fun l a W h hl hd K hK0 => ?_
        obtain ⟨b0, b1, b2, b3, b4, b5, b6, b7, b8, b9, b10, b11, b12, b13, b14, b15, x19, x20, x21, x22, x23, x24, x25, x26, x27, x28, x29, x30, x5, x6, rfl, rfl, hJ⟩ := h
        have hb : b3 = false := hl
        subst hb
        clear hl
        have hb : b2 = true := hd _ (.head _) rfl
        subst hb
        have hK := fun (x19' x20' x21' x22' x23' x24' x25' x26' x27' x28' x29' x30' x5' x6' : Value) (W' : World) h => hK0 _ W' ⟨b0, b1, true, true, b4, b5, b6, b7, b8, b9, b10, b11, b12, b13, b14, b15, x19', x20', x21', x22', x23', x24', x25', x26', x27', x28', x29', x30', x5', x6', rfl, rfl, h⟩
        clear hK0 hd
        simp only [Act.put, List.setIfInBounds_toArray, List.set_cons_succ, List.set_cons_zero] at hK ⊢
        obtain rfl := hJ.g2 rfl
        obtain ⟨a0, a1, c0, c1, _, _, _, _⟩ := hJ.hb.out
        go_simp
        exact hK _ _ _ _ _ _ _ _ _ _ _ _ _ _ _ { hJ with g3 := fun _ => rfl }
      case op4 =>
        refine InvOp.pass rfl fun l a W h hl hd K hK0 => ?_
        obtain ⟨b0, b1, b2, b3, b4, b5, b6, b7, b8, b9, b10, b11, b12, b13, b14, b15, x19, x20, x21, x22, x23, x24, x25, x26, x27, x28, x29, x30, x5, x6, rfl, rfl, hJ⟩ := h
        have hb : b4 = false := hl
        subst hb
        clear hl
        have hb : b3 = true := hd _ (.head _) rfl
        subst hb
        have hK := fun (x19' x20' x21' x22' x23' x24' x25' x26' x27' x28' x29' x30' x5' x6' : Value) (W' : World) h => hK0 _ W' ⟨b0, b1, b2, true, true, b5, b6, b7, b8, b9, b10, b11, b12, b13, b14, b15, x19', x20', x21', x22', x23', x24', x25', x26', x27', x28', x29', x30', x5', x6', rfl, rfl, h⟩
        clear hK0 hd
        simp only [Act.put, List.setIfInBounds_toArray, List.set_cons_succ, List.set_cons_zero] at hK ⊢
        obtain rfl := hJ.g3 rfl
        go_simp
        go_at_call 76
        refine (HSY.out _).mono ?_
        rintro e w6 ⟨rfl, hl6⟩
        rw [hl6]; clear hl6 w6
        exact hK _ _ _ _ _ _ _ _ _ _ _ _ _ _ _ { hJ with g4 := fun _ => rfl }
      case op5 =>
        refine InvOp.pass rfl fun l a W h hl hd K hK0 => ?_
        obtain ⟨b0, b1, b2, b3, b4, b5, b6, b7, b8, b9, b10, b11, b12, b13, b14, b15, x19, x20, x21, x22, x23, x24, x25, x26, x27, x28, x29, x30, x5, x6, rfl, rfl, hJ⟩ := h
        have hb : b5 = false := hl
        subst hb
        clear hl
        have hb : b1 = true := hd _ (.head _) rfl
        subst hb
        have hb : b4 = true := hd _ (.tail _ (.head _)) rfl
        subst hb
        have hK := fun (x19' x20' x21' x22' x23' x24' x25' x26' x27' x28' x29' x30' x5' x6' : Value) (W' : World) h => hK0 _ W' ⟨b0, true, b2, b3, true, true, b6, b7, b8, b9, b10, b11, b12, b13, b14, b15, x19', x20', x21', x22', x23', x24', x25', x26', x27', x28', x29', x30', x5', x6', rfl, rfl, h⟩
        clear hK0 hd
        simp only [Act.put, List.setIfInBounds_toArray, List.set_cons_succ, List.set_cons_zero] at hK ⊢
        obtain rfl := hJ.g1 rfl
        obtain rfl := hJ.g4 rfl
        go_simp
        go_at_call 75
        refine (HTX.out _).mono ?_
        rintro e w6 ⟨rfl, hl6⟩
        go_simp
        exact hK _ _ _ _ _ _ _ _ _ _ _ _ _ _ _ { hJ with hl := Lib.hid (hJ.hl.out.trans hl6), hb := Lib.hid (hJ.hb.out.lay hl6), g12 := fun hb => (hJ.g12 hb).keep hl6, g13 := fun hb => (hJ.g13 hb).keep hl6, g5 := fun _ => rfl }
      case op6 =>
        refine InvOp.pass rfl fun l a W h hl hd K hK0 => ?_
        obtain ⟨b0, b1, b2, b3, b4, b5, b6, b7, b8, b9, b10, b11, b12, b13, b14, b15, x19, x20, x21, x22, x23, x24, x25, x26, x27, x28, x29, x30, x5, x6, rfl, rfl, hJ⟩ := h
        have hb : b6 = false := hl
        subst hb
        clear hl
        have hK := fun (x19' x20' x21' x22' x23' x24' x25' x26' x27' x28' x29' x30' x5' x6' : Value) (W' : World) h => hK0 _ W' ⟨b0, b1, b2, b3, b4, b5, true, b7, b8, b9, b10, b11, b12, b13, b14, b15, x19', x20', x21', x22', x23', x24', x25', x26', x27', x28', x29', x30', x5', x6', rfl, rfl, h⟩
        clear hK0 hd
        simp only [Act.put, List.setIfInBounds_toArray, List.set_cons_succ, List.set_cons_zero] at hK ⊢
        go_simp
        exact hK _ _ _ _ _ _ _ _ _ _ _ _ _ _ _ { hJ with g6 := fun _ => rfl }
      case op7 =>
        refine InvOp.pass rfl fun l a W h hl hd K hK0 => ?_
        obtain ⟨b0, b1, b2, b3, b4, b5, b6, b7, b8, b9, b10, b11, b12, b13, b14, b15, x19, x20, x21, x22, x23, x24, x25, x26, x27, x28, x29, x30, x5, x6, rfl, rfl, hJ⟩ := h
        have hb : b7 = false := hl
        subst hb
        clear hl
        have hb : b6 = true := hd _ (.head _) rfl
        subst hb
        have hK := fun (x19' x20' x21' x22' x23' x24' x25' x26' x27' x28' x29' x30' x5' x6' : Value) (W' : World) h => hK0 _ W' ⟨b0, b1, b2, b3, b4, b5, true, true, b8, b9, b10, b11, b12, b13, b14, b15, x19', x20', x21', x22', x23', x24', x25', x26', x27', x28', x29', x30', x5', x6', rfl, rfl, h⟩
        clear hK0 hd
        simp only [Act.put, List.setIfInBounds_toArray, List.set_cons_succ, List.set_cons_zero] at hK ⊢
        obtain rfl := hJ.g6 rfl
        obtain ⟨a0, a1, c0, c1, _, _, _, _⟩ := hJ.hb.out
        go_simp
        exact hK _ _ _ _ _ _ _ _ _ _ _ _ _ _ _ { hJ with g7 := fun _ => rfl }
      case op8 =>
        refine InvOp.pass rfl fun l a W h hl hd K hK0 => ?_
        obtain ⟨b0, b1, b2, b3, b4, b5, b6, b7, b8, b9, b10, b11, b12, b13, b14, b15, x19, x20, x21, x22, x23, x24, x25, x26, x27, x28, x29, x30, x5, x6, rfl, rfl, hJ⟩ := h
        have hb : b8 = false := hl
        subst hb
        clear hl
        have hK := fun (x19' x20' x21' x22' x23' x24' x25' x26' x27' x28' x29' x30' x5' x6' : Value) (W' : World) h => hK0 _ W' ⟨b0, b1, b2, b3, b4, b5, b6, b7, true, b9, b10, b11, b12, b13, b14, b15, x19', x20', x21', x22', x23', x24', x25', x26', x27', x28', x29', x30', x5', x6', rfl, rfl, h⟩
        clear hK0 hd
        simp only [Act.put, List.setIfInBounds_toArray, List.set_cons_succ, List.set_cons_zero] at hK ⊢
        go_simp
        exact hK _ _ _ _ _ _ _ _ _ _ _ _ _ _ _ { hJ with g8 := fun _ => rfl }
      case op9 =>
        refine InvOp.pass rfl fun l a W h hl hd K hK0 => ?_
        obtain ⟨b0, b1, b2, b3, b4, b5, b6, b7, b8, b9, b10, b11, b12, b13, b14, b15, x19, x20, x21, x22, x23, x24, x25, x26, x27, x28, x29, x30, x5, x6, rfl, rfl, hJ⟩ := h
        have hb : b9 = false := hl
        subst hb
        clear hl
        have hb : b8 = true := hd _ (.head _) rfl
        subst hb
        have hK := fun (x19' x20' x21' x22' x23' x24' x25' x26' x27' x28' x29' x30' x5' x6' : Value) (W' : World) h => hK0 _ W' ⟨b0, b1, b2, b3, b4, b5, b6, b7, true, true, b10, b11, b12, b13, b14, b15, x19', x20', x21', x22', x23', x24', x25', x26', x27', x28', x29', x30', x5', x6', rfl, rfl, h⟩
        clear hK0 hd
        simp only [Act.put, List.setIfInBounds_toArray, List.set_cons_succ, List.set_cons_zero] at hK ⊢
        obtain rfl := hJ.g8 rfl
        obtain ⟨a0, a1, c0, c1, _, _, _, _⟩ := hJ.hb.out
        go_simp
        exact hK _ _ _ _ _ _ _ _ _ _ _ _ _ _ _ { hJ with g9 := fun _ => rfl }
      case op10 =>
        refine InvOp.pass rfl fun l a W h hl hd K hK0 => ?_
        obtain ⟨b0, b1, b2, b3, b4, b5, b6, b7, b8, b9, b10, b11, b12, b13, b14, b15, x19, x20, x21, x22, x23, x24, x25, x26, x27, x28, x29, x30, x5, x6, rfl, rfl, hJ⟩ := h
        have hb : b10 = false := hl
        subst hb
        clear hl
        have hb : b9 = true := hd _ (.head _) rfl
        subst hb
        have hb : b5 = true := hd _ (.tail _ (.head _)) rfl
        subst hb
        have hK := fun (x19' x20' x21' x22' x23' x24' x25' x26' x27' x28' x29' x30' x5' x6' : Value) (W' : World) h => hK0 _ W' ⟨b0, b1, b2, b3, b4, true, b6, b7, b8, true, true, b11, b12, b13, b14, b15, x19', x20', x21', x22', x23', x24', x25', x26', x27', x28', x29', x30', x5', x6', rfl, rfl, h⟩
        clear hK0 hd
        simp only [Act.put, List.setIfInBounds_toArray, List.set_cons_succ, List.set_cons_zero] at hK ⊢
        obtain rfl := hJ.g5 rfl
        obtain rfl := hJ.g9 rfl
        go_simp
        go_at_call 76
        refine (HSX.out _).mono ?_
        rintro e w6 ⟨rfl, hl6⟩
        rw [hl6]; clear hl6 w6
        exact hK _ _ _ _ _ _ _ _ _ _ _ _ _ _ _ { hJ with g10 := fun _ => rfl }
      case op11 =>
        refine InvOp.pass rfl fun l a W h hl hd K hK0 => ?_
        obtain ⟨b0, b1, b2, b3, b4, b5, b6, b7, b8, b9, b10, b11, b12, b13, b14, b15, x19, x20, x21, x22, x23, x24, x25, x26, x27, x28, x29, x30, x5, x6, rfl, rfl, hJ⟩ := h
        have hb : b11 = false := hl
        subst hb
        clear hl
        have hb : b7 = true := hd _ (.head _) rfl
        subst hb
        have hb : b10 = true := hd _ (.tail _ (.head _)) rfl
        subst hb
        have hK := fun (x19' x20' x21' x22' x23' x24' x25' x26' x27' x28' x29' x30' x5' x6' : Value) (W' : World) h => hK0 _ W' ⟨b0, b1, b2, b3, b4, b5, b6, true, b8, b9, true, true, b12, b13, b14, b15, x19', x20', x21', x22', x23', x24', x25', x26', x27', x28', x29', x30', x5', x6', rfl, rfl, h⟩
        clear hK0 hd
        simp only [Act.put, List.setIfInBounds_toArray, List.set_cons_succ, List.set_cons_zero] at hK ⊢
        obtain rfl := hJ.g7 rfl
        obtain rfl := hJ.g10 rfl
        go_simp
        go_at_call 75
        refine (HTY.out _).mono ?_
        rintro e w6 ⟨rfl, hl6⟩
        go_simp
        exact hK _ _ _ _ _ _ _ _ _ _ _ _ _ _ _ { hJ with hl := Lib.hid (hJ.hl.out.trans hl6), hb := Lib.hid (hJ.hb.out.lay hl6), g12 := fun hb => (hJ.g12 hb).keep hl6, g13 := fun hb => (hJ.g13 hb).keep hl6, g11 := fun _ => rfl }
      case op12 =>
        refine InvOp.pass rfl fun l a W h hl hd K hK0 => ?_
        obtain ⟨b0, b1, b2, b3, b4, b5, b6, b7, b8, b9, b10, b11, b12, b13, b14, b15, x19, x20, x21, x22, x23, x24, x25, x26, x27, x28, x29, x30, x5, x6, rfl, rfl, hJ⟩ := h
        have hb : b12 = false := hl
        subst hb
        clear hl
        have hK := fun (x19' x20' x21' x22' x23' x24' x25' x26' x27' x28' x29' x30' x5' x6' : Value) (W' : World) h => hK0 _ W' ⟨b0, b1, b2, b3, b4, b5, b6, b7, b8, b9, b10, b11, true, b13, b14, b15, x19', x20', x21', x22', x23', x24', x25', x26', x27', x28', x29', x30', x5', x6', rfl, rfl, h⟩
        clear hK0 hd
        simp only [Act.put, List.setIfInBounds_toArray, List.set_cons_succ, List.set_cons_zero] at hK ⊢
        have hsz := cell_lt hJ.hb.out.y0
        obtain rfl : b14 = false := by cases b14 with
          | false => rfl
          | true => exact absurd (hJ.d14 rfl) (by simp)
        go_simp
        exact hK _ _ _ _ _ _ _ _ _ _ _ _ _ _ _ { hJ with d14 := fun _ => rfl, g12 := fun _ => Box.start (W := W) (base := bx + 2) 139 _ _ (by omega), hne := fun _ h13 => ((hJ.g13 h13).lt (Nat.le_refl W.heap.size)).symm, hl := Lib.hid (hJ.hl.out.trans (Lay.alloc W _)), hb := Lib.hid (hJ.hb.out.lay (Lay.alloc W _)), g13 := fun hb => (hJ.g13 hb).keep (Lay.alloc W _) }
      case op13 =>
        refine InvOp.pass rfl fun l a W h hl hd K hK0 => ?_
        obtain ⟨b0, b1, b2, b3, b4, b5, b6, b7, b8, b9, b10, b11, b12, b13, b14, b15, x19, x20, x21, x22, x23, x24, x25, x26, x27, x28, x29, x30, x5, x6, rfl, rfl, hJ⟩ := h
        have hb : b13 = false := hl
        subst hb
        clear hl
        have hK := fun (x19' x20' x21' x22' x23' x24' x25' x26' x27' x28' x29' x30' x5' x6' : Value) (W' : World) h => hK0 _ W' ⟨b0, b1, b2, b3, b4, b5, b6, b7, b8, b9, b10, b11, b12, true, b14, b15, x19', x20', x21', x22', x23', x24', x25', x26', x27', x28', x29', x30', x5', x6', rfl, rfl, h⟩
        clear hK0 hd
        simp only [Act.put, List.setIfInBounds_toArray, List.set_cons_succ, List.set_cons_zero] at hK ⊢
        have hsz := cell_lt hJ.hb.out.y0
        obtain rfl : b15 = false := by cases b15 with
          | false => rfl
          | true => exact absurd (hJ.d15 rfl) (by simp)
        go_simp
        exact hK _ _ _ _ _ _ _ _ _ _ _ _ _ _ _ { hJ with d15 := fun _ => rfl, g13 := fun _ => Box.start (W := W) (base := bx + 2) 139 _ _ (by omega), hne := fun h12 _ => (hJ.g12 h12).lt (Nat.le_refl W.heap.size), hl := Lib.hid (hJ.hl.out.trans (Lay.alloc W _)), hb := Lib.hid (hJ.hb.out.lay (Lay.alloc W _)), g12 := fun hb => (hJ.g12 hb).keep (Lay.alloc W _) }
      case op14 =>
        refine InvOp.pass rfl fun l a W h hl hd K hK0 => ?_
        obtain ⟨b0, b1, b2, b3, b4, b5, b6, b7, b8, b9, b10, b11, b12, b13, b14, b15, x19, x20, x21, x22, x23, x24, x25, x26, x27, x28, x29, x30, x5, x6, rfl, rfl, hJ⟩ := h
        have hb : b14 = false := hl
        subst hb
        clear hl
        have hb : b12 = true := hd _ (.head _) rfl
        subst hb
        have hb : b5 = true := hd _ (.tail _ (.head _)) rfl
        subst hb
        have hb : b11 = true := hd _ (.tail _ (.tail _ (.head _))) rfl
        subst hb
        have hb : b0 = true := hd _ (.tail _ (.tail _ (.tail _ (.head _)))) rfl
        subst hb
        have hb : b1 = true := hd _ (.tail _ (.tail _ (.tail _ (.tail _ (.head _))))) rfl
        subst hb
        have hb : b2 = true := hd _ (.tail _ (.tail _ (.tail _ (.tail _ (.tail _ (.head _)))))) rfl
        subst hb
        have hb : b3 = true := hd _ (.tail _ (.tail _ (.tail _ (.tail _ (.tail _ (.tail _ (.head _))))))) rfl
        subst hb
        have hb : b4 = true := hd _ (.tail _ (.tail _ (.tail _ (.tail _ (.tail _ (.tail _ (.tail _ (.head _)))))))) rfl
        subst hb
        have hb : b13 = true := hd _ (.tail _ (.tail _ (.tail _ (.tail _ (.tail _ (.tail _ (.tail _ (.tail _ (.tail _ (.tail _ (.tail _ (.tail _ (.tail _ (.tail _ (.tail _ (.tail _ (.head _))))))))))))))))) rfl
        subst hb
        have hK := fun (x19' x20' x21' x22' x23' x24' x25' x26' x27' x28' x29' x30' x5' x6' : Value) (W' : World) h => hK0 _ W' ⟨true, true, true, true, true, true, b6, b7, b8, b9, b10, true, true, true, true, b15, x19', x20', x21', x22', x23', x24', x25', x26', x27', x28', x29', x30', x5', x6', rfl, rfl, h⟩
        clear hK0 hd
        simp only [Act.put, List.setIfInBounds_toArray, List.set_cons_succ, List.set_cons_zero] at hK ⊢
        obtain rfl := hJ.g5 rfl
        obtain ⟨B, rfl, hB, hblk⟩ := hJ.g12 rfl
        have c0 := cell_of_blk (j := 0) hblk rfl
        have c1 := cell_of_blk (j := 1) hblk rfl
        have c2 := cell_of_blk (j := 2) hblk rfl
        have f0 := thaw hblk 0
        have f1 := thaw hblk 1
        have f2 := thaw hblk 2
        go_simp
        exact hK _ _ _ _ _ _ _ _ _ _ _ _ _ _ _ { hJ with hl := Lib.hid (hJ.hl.out.setC (B := B) (o := 0) (by have := HBW.out; omega) [.bool false, .int .u64 0, .int .u64 p]), hb := Lib.hid (hJ.hb.out.far (B := B) (by omega) (by omega) [.bool false, .int .u64 0, .int .u64 p]), g12 := fun _ => ⟨B, rfl, hB, by rw [setCell_heap (setCell_heap (setCell_heap hblk))]; rfl⟩, g13 := fun h => (hJ.g13 h).other (B := B) ((hJ.hne rfl h).symm) [.bool false, .int .u64 0, .int .u64 p], d14 := fun _ => rfl }
      case op15 =>
        refine InvOp.pass rfl fun l a W h hl hd K hK0 => ?_
        obtain ⟨b0, b1, b2, b3, b4, b5, b6, b7, b8, b9, b10, b11, b12, b13, b14, b15, x19, x20, x21, x22, x23, x24, x25, x26, x27, x28, x29, x30, x5, x6, rfl, rfl, hJ⟩ := h
        have hb : b15 = false := hl
        subst hb
        clear hl
        have hb : b13 = true := hd _ (.head _) rfl
        subst hb
        have hb : b11 = true := hd _ (.tail _ (.head _)) rfl
        subst hb
        have hb : b14 = true := hd _ (.tail _ (.tail _ (.head _))) rfl
        subst hb
        have hb : b0 = true := hd _ (.tail _ (.tail _ (.tail _ (.head _)))) rfl
        subst hb
        have hb : b1 = true := hd _ (.tail _ (.tail _ (.tail _ (.tail _ (.head _))))) rfl
        subst hb
        have hb : b2 = true := hd _ (.tail _ (.tail _ (.tail _ (.tail _ (.tail _ (.head _)))))) rfl
        subst hb
        have hb : b3 = true := hd _ (.tail _ (.tail _ (.tail _ (.tail _ (.tail _ (.tail _ (.head _))))))) rfl
        subst hb
        have hb : b4 = true := hd _ (.tail _ (.tail _ (.tail _ (.tail _ (.tail _ (.tail _ (.tail _ (.head _)))))))) rfl
        subst hb
        have hb : b5 = true := hd _ (.tail _ (.tail _ (.tail _ (.tail _ (.tail _ (.tail _ (.tail _ (.tail _ (.head _))))))))) rfl
        subst hb
        have hb : b6 = true := hd _ (.tail _ (.tail _ (.tail _ (.tail _ (.tail _ (.tail _ (.tail _ (.tail _ (.tail _ (.head _)))))))))) rfl
        subst hb
        have hb : b7 = true := hd _ (.tail _ (.tail _ (.tail _ (.tail _ (.tail _ (.tail _ (.tail _ (.tail _ (.tail _ (.tail _ (.head _))))))))))) rfl
        subst hb
        have hb : b8 = true := hd _ (.tail _ (.tail _ (.tail _ (.tail _ (.tail _ (.tail _ (.tail _ (.tail _ (.tail _ (.tail _ (.tail _ (.head _)))))))))))) rfl
        subst hb
        have hb : b9 = true := hd _ (.tail _ (.tail _ (.tail _ (.tail _ (.tail _ (.tail _ (.tail _ (.tail _ (.tail _ (.tail _ (.tail _ (.tail _ (.head _))))))))))))) rfl
        subst hb
        have hb : b10 = true := hd _ (.tail _ (.tail _ (.tail _ (.tail _ (.tail _ (.tail _ (.tail _ (.tail _ (.tail _ (.tail _ (.tail _ (.tail _ (.tail _ (.head _)))))))))))))) rfl
        subst hb
        have hb : b12 = true := hd _ (.tail _ (.tail _ (.tail _ (.tail _ (.tail _ (.tail _ (.tail _ (.tail _ (.tail _ (.tail _ (.tail _ (.tail _ (.tail _ (.tail _ (.tail _ (.head _)))))))))))))))) rfl
        subst hb
        have hK := fun (x19' x20' x21' x22' x23' x24' x25' x26' x27' x28' x29' x30' x5' x6' : Value) (W' : World) h => hK0 _ W' ⟨true, true, true, true, true, true, true, true, true, true, true, true, true, true, true, true, x19', x20', x21', x22', x23', x24', x25', x26', x27', x28', x29', x30', x5', x6', rfl, rfl, h⟩
        clear hK0 hd
        simp only [Act.put, List.setIfInBounds_toArray, List.set_cons_succ, List.set_cons_zero] at hK ⊢
        obtain rfl := hJ.g11 rfl
        obtain ⟨B, rfl, hB, hblk⟩ := hJ.g13 rfl
        have c0 := cell_of_blk (j := 0) hblk rfl
        have c1 := cell_of_blk (j := 1) hblk rfl
        have c2 := cell_of_blk (j := 2) hblk rfl
        have f0 := thaw hblk 0
        have f1 := thaw hblk 1
        have f2 := thaw hblk 2
        go_simp
        exact hK _ _ _ _ _ _ _ _ _ _ _ _ _ _ _ { hJ with hl := Lib.hid (hJ.hl.out.setC (B := B) (o := 0) (by have := HBW.out; omega) [.bool false, .int .u64 0, .int .u64 q]), hb := Lib.hid (hJ.hb.out.far (B := B) (by omega) (by omega) [.bool false, .int .u64 0, .int .u64 q]), g13 := fun _ => ⟨B, rfl, hB, by rw [setCell_heap (setCell_heap (setCell_heap hblk))]; rfl⟩, g12 := fun h => (hJ.g12 h).other (B := B) (hJ.hne h rfl) [.bool false, .int .u64 0, .int .u64 q], d15 := fun _ => rfl }
      case last =>
        intro l a W h hall
        obtain ⟨b0, b1, b2, b3, b4, b5, b6, b7, b8, b9, b10, b11, b12, b13, b14, b15, x19, x20, x21, x22, x23, x24, x25, x26, x27, x28, x29, x30, x5, x6, rfl, rfl, hJ⟩ := h
        simp only [Act.put, List.setIfInBounds_toArray, List.set_cons_succ, List.set_cons_zero]
        have hb : b0 = true := hall 0 (Nat.le_of_ble_eq_true rfl)
        subst hb
        have hb : b1 = true := hall 1 (Nat.le_of_ble_eq_true rfl)
        subst hb
        have hb : b2 = true := hall 2 (Nat.le_of_ble_eq_true rfl)
        subst hb
        have hb : b3 = true := hall 3 (Nat.le_of_ble_eq_true rfl)
        subst hb
        have hb : b4 = true := hall 4 (Nat.le_of_ble_eq_true rfl)
        subst hb
        have hb : b5 = true := hall 5 (Nat.le_of_ble_eq_true rfl)
        subst hb
        have hb : b6 = true := hall 6 (Nat.le_of_ble_eq_true rfl)
        subst hb
        have hb : b7 = true := hall 7 (Nat.le_of_ble_eq_true rfl)
        subst hb
        have hb : b8 = true := hall 8 (Nat.le_of_ble_eq_true rfl)
        subst hb
        have hb : b9 = true := hall 9 (Nat.le_of_ble_eq_true rfl)
        subst hb
        have hb : b10 = true := hall 10 (Nat.le_of_ble_eq_true rfl)
        subst hb
        have hb : b11 = true := hall 11 (Nat.le_of_ble_eq_true rfl)
        subst hb
        have hb : b12 = true := hall 12 (Nat.le_of_ble_eq_true rfl)
        subst hb
        have hb : b13 = true := hall 13 (Nat.le_of_ble_eq_true rfl)
        subst hb
        have hb : b14 = true := hall 14 (Nat.le_of_ble_eq_true rfl)
        subst hb
        have hb : b15 = true := hall 15 (Nat.le_of_ble_eq_true rfl)
        subst hb
        clear hall
        obtain ⟨B, rfl, _, hB⟩ := hJ.g12 rfl
        obtain ⟨C, rfl, _, hC⟩ := hJ.g13 rfl
        go_wp2_with fail
        go_meet
        exact ⟨B, C, rfl, rfl, hJ.hl, Lib.hid ⟨hB, hC⟩⟩
    case rest =>
      obtain ⟨B, C, rfl, rfl, HL2, HBC⟩ := hcut
      clear HL HB
      have a0 := cell_of_blk (j := 0) HBC.out.1 rfl
      have a1 := cell_of_blk (j := 1) HBC.out.1 rfl
      have a2 := cell_of_blk (j := 2) HBC.out.1 rfl
      have b0 := cell_of_blk (j := 0) HBC.out.2 rfl
      have b1 := cell_of_blk (j := 1) HBC.out.2 rfl
      have b2 := cell_of_blk (j := 2) HBC.out.2 rfl
      have HOD := Lib.hid (fun w => order_any p q w)
      rw [HC.out] at HOD
      unfold wA at HOD
      go_wp2_with fail
      refine (HOD.out _).mono ?_
      rintro e w9 ⟨rfl, hl9⟩
      have HL9 := Lib.hid (HL2.out.trans hl9)
      clear hl9 a0 a1 a2 b0 b1 b2
      go_wp2_with fail
      go_ret
      exact ⟨rfl, HL9.out⟩
end Go.Proofs.Ytemeppfikpafbaa

