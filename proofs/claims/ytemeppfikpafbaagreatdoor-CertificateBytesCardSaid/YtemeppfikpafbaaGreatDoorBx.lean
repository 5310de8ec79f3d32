/- Texts EqlG, SamG, RdsW, DigA, DigD, laid together. -/
import Derived.Deep.RegionHeld3
import Derived.Deep.QuietTactic
import Derived.Deep.MidRow
import Derived.Test.YtemeppfikpafbaaGreatDoorBa
import Derived.Test.YtemeppfikpafbaaGreatDoorBg
import Derived.Test.YtemeppfikpafbaaGreatDoorBo
import Derived.Test.YtemeppfikpafbaaGreatDoorBs
import Derived.Test.YtemeppfikpafbaaGreatDoorBv
import Derived.Test.YtemeppfikpafbaaGreatDoorBw
/- certificate.Equal (58), choice.Set.Equal (113), slices.EqualFunc (162, 164, 115), slices.Equal (166, 114), same (163), equalHold (116, 165): true where the contents are the same. -/
namespace Go.Proofs.YtemeppfikpafbaaGreatDoor
open Go.RowKit
theorem info5 : (Tryz.prog.info? 5).map (fun i => (i.zero, i.size, i.bytes)) = some (some (.int .u8 0), 1, 1) := by kernel_rfl
theorem eqItems_same (d : Nat) (xs : Array Value) (w : World) : ∀ (is : List Nat), (∀ i ∈ is, ∃ n : Int, xs[i]? = some (.int .u8 n)) → (Op.eqItems (d + 1) 5 1 xs xs is).run Tryz.prog w = .ok true w
  | [], _ => by simp [Op.eqItems]
  | i :: is, h => by
    obtain ⟨n, hn⟩ := h i (by simp)
    have p1 := run_part_plain (P := Tryz.prog) w (e := 5) (by kernel_rfl) (xs := xs) (off := i * 1) (by rw [Nat.mul_one]; exact hn)
    have p3 := run_equalIn_int (P := Tryz.prog) w d 5 .u8 .u8 n n Tryz.underlying5
    have ih := eqItems_same d xs w is fun j hj => h j (List.mem_cons_of_mem _ hj)
    simp only [Op.eqItems, Sem.run_bind, p1, p3, Result.andThen_ok]
    simpa using ih
theorem eqFl_same {fl : List Value} (hl : fl.length = 32) (h : ∀ v ∈ fl, ∃ n : Int, v = .int .u8 n) (w : World) : (binOp .eql 31 (.agg fl.toArray) (.agg fl.toArray)).run Tryz.prog w = .ok (.bool true) w := by
  obtain ⟨i5, hi, _⟩ := info_parts info5
  have hc : Tryz.prog.cellsOf 5 = 1 := by kernel_rfl
  have ha := run_equalIn_array (P := Tryz.prog) w 9999 (t := 31) fl.toArray fl.toArray Tryz.underlying31 hi
  rw [hc, eqItems_same 9998 _ w (List.range 32) (fun i hi => by
    have h32 : i < fl.length := by rw [hl]; exact List.mem_range.1 hi
    obtain ⟨n, hn⟩ := h fl[i] (List.getElem_mem h32)
    exact ⟨n, by rw [List.getElem?_toArray, List.getElem?_eq_getElem h32, hn]⟩)] at ha
  rw [run_eql_struct, ha]
  rfl
set_option maxRecDepth 100000 in
set_option maxHeartbeats 2000000 in
theorem eq166_same {S T : Nat → Prop} (l : List Int) (v x : Value) (w : World) (hl : l.length ≤ maxLen) (h : Row S w 1 l.length v (flatC nC l)) (hx : Row T w 1 l.length x (flatC nC l)) :
    Calls Tryz.prog 72 #[v, x] w fun e w' => e = .returned (.bool true) ∧ More w w' := by
  obtain ⟨a, cap, rfl, _⟩ := h.shape
  obtain ⟨xa, xc, rfl, _⟩ := hx.shape
  have HR := Lib.hid h; clear h
  have HX := Lib.hid hx; clear hx
  obtain ⟨n, HN⟩ : ∃ n, Hid (l.length = n) := ⟨_, Lib.hid rfl⟩
  rw [HN.out] at hl ⊢
  unfold maxLen at hl
  go_enter Tryz.func72, Tryz.ntmps72
  go_wp2_with fail
  go_loopw [13] (fun i wr => ∃ j : Nat, j ≤ n ∧ i = .int .i64 j ∧ Hid (More w wr)) (fun i _ => n - (intOf i).toNat)
  case atStart => exact ⟨0, Nat.zero_le _, rfl, Lib.hid (World.grownBy.refl _ _)⟩
  case round =>
    obtain ⟨j, hj, rfl, HM⟩ := hrel
    obtain ⟨wo, rfl⟩ : ∃ wo : World, wo = wr := ⟨_, rfl⟩
    by_cases hlt : j < n
    · have hjl : j < l.length := by rw [HN.out]; exact hlt
      obtain ⟨b, off, rfl, _, hc⟩ := HR.out.atC nC_len hjl
      obtain ⟨b2, off2, rfl, _, hd⟩ := HX.out.atC nC_len hjl
      have g0 := HM.out.cell (hc 0 (.int .i64 l[j]) rfl)
      have k0 := HM.out.cell (hd 0 (.int .i64 l[j]) rfl)
      rw [Nat.add_zero] at g0 k0
      rw [Nat.mul_one] at g0 k0
      clear hc hd
      have HLT := Lib.hid hlt
      generalize l[j] = p at *
      clear hjl
      have hji : (j : Int) < n := by omega
      have hbe := cell_lt g0
      have hbg := cell_lt k0
      have HL := Lib.hid (more_drew wo)
      have HK := Lib.hid (show ∀ W, More wo W → (W.cell? ⟨b, off + j, none⟩ = some (.int .i64 p) ∧ W.cell? ⟨b2, off2 + j, none⟩ = some (.int .i64 p)) from fun W h => ⟨h.cell g0, h.cell k0⟩)
      go_upto_region 6 with (fail)
      go_region_held3 (fun W => W.cell? ⟨b, off + j, none⟩ = some (.int .i64 p) ∧ W.cell? ⟨b2, off2 + j, none⟩ = some (.int .i64 p)) (first | with_reducible exact HK.out _ HL.out) (fail)
      all_goals
        have hlt9 := HLT.out
        go_wp2_with fail
        go_roundw
        case rel => exact ⟨j + 1, by have := HLT.out; omega, by go_num, Lib.hid (more_trans HM.out HL.out)⟩
        case measure => have := HLT.out; simp [intOf]; omega
    · obtain rfl : j = n := by omega
      go_wp2_with fail
      go_ret
      exact ⟨rfl, HM.out⟩
set_option maxRecDepth 100000 in
set_option maxHeartbeats 2000000 in
theorem eq114_same {S T : Nat → Prop} (l : List K4) (v x : Value) (w : World) (hl : l.length ≤ maxLen) (h : Row S w 4 l.length v (flatC kC l)) (hx : Row T w 4 l.length x (flatC kC l)) :
    Calls Tryz.prog 40 #[v, x] w fun e w' => e = .returned (.bool true) ∧ More w w' := by
  obtain ⟨a, cap, rfl, _⟩ := h.shape
  obtain ⟨xa, xc, rfl, _⟩ := hx.shape
  have HR := Lib.hid h; clear h
  have HX := Lib.hid hx; clear hx
  obtain ⟨n, HN⟩ : ∃ n, Hid (l.length = n) := ⟨_, Lib.hid rfl⟩
  rw [HN.out] at hl ⊢
  unfold maxLen at hl
  go_enter Tryz.func40, Tryz.ntmps40
  go_wp2_with fail
  go_loopw [13] (fun i wr => ∃ j : Nat, j ≤ n ∧ i = .int .i64 j ∧ Hid (More w wr)) (fun i _ => n - (intOf i).toNat)
  case atStart => exact ⟨0, Nat.zero_le _, rfl, Lib.hid (World.grownBy.refl _ _)⟩
  case round =>
    obtain ⟨j, hj, rfl, HM⟩ := hrel
    obtain ⟨wo, rfl⟩ : ∃ wo : World, wo = wr := ⟨_, rfl⟩
    by_cases hlt : j < n
    · have hjl : j < l.length := by rw [HN.out]; exact hlt
      obtain ⟨b, off, rfl, _, hc⟩ := HR.out.atC kC_len hjl
      obtain ⟨b2, off2, rfl, _, hd⟩ := HX.out.atC kC_len hjl
      have g0 := HM.out.cell (hc 0 (.int .u8 l[j].kind) rfl)
      have k0 := HM.out.cell (hd 0 (.int .u8 l[j].kind) rfl)
      have g1 := HM.out.cell (hc 1 (.int .i64 l[j].a) rfl)
      have k1 := HM.out.cell (hd 1 (.int .i64 l[j].a) rfl)
      have g2 := HM.out.cell (hc 2 (.int .i64 l[j].b) rfl)
      have k2 := HM.out.cell (hd 2 (.int .i64 l[j].b) rfl)
      have g3 := HM.out.cell (hc 3 (.int .i64 l[j].n) rfl)
      have k3 := HM.out.cell (hd 3 (.int .i64 l[j].n) rfl)
      rw [Nat.add_zero] at g0 k0
      clear hc hd
      have HLT := Lib.hid hlt
      generalize l[j] = p at *
      clear hjl
      have hji : (j : Int) < n := by omega
      have hbe := cell_lt g0
      have hbg := cell_lt k0
      have HL := Lib.hid (more_drew wo)
      have HK := Lib.hid (show ∀ W, More wo W → (W.cell? ⟨b, off + j * 4, none⟩ = some (.int .u8 p.kind) ∧ W.cell? ⟨b, off + j * 4 + 1, none⟩ = some (.int .i64 p.a) ∧ W.cell? ⟨b, off + j * 4 + 2, none⟩ = some (.int .i64 p.b) ∧ W.cell? ⟨b, off + j * 4 + 3, none⟩ = some (.int .i64 p.n) ∧ W.cell? ⟨b2, off2 + j * 4, none⟩ = some (.int .u8 p.kind) ∧ W.cell? ⟨b2, off2 + j * 4 + 1, none⟩ = some (.int .i64 p.a) ∧ W.cell? ⟨b2, off2 + j * 4 + 2, none⟩ = some (.int .i64 p.b) ∧ W.cell? ⟨b2, off2 + j * 4 + 3, none⟩ = some (.int .i64 p.n)) from fun W h => ⟨h.cell g0, h.cell g1, h.cell g2, h.cell g3, h.cell k0, h.cell k1, h.cell k2, h.cell k3⟩)
      have heq := fun W => run_neK p p W
      rw [decide_eq_true rfl, Bool.not_true] at heq
      go_upto_region 6 with (fail)
      go_region_held3 (fun W => W.cell? ⟨b, off + j * 4, none⟩ = some (.int .u8 p.kind) ∧ W.cell? ⟨b, off + j * 4 + 1, none⟩ = some (.int .i64 p.a) ∧ W.cell? ⟨b, off + j * 4 + 2, none⟩ = some (.int .i64 p.b) ∧ W.cell? ⟨b, off + j * 4 + 3, none⟩ = some (.int .i64 p.n) ∧ W.cell? ⟨b2, off2 + j * 4, none⟩ = some (.int .u8 p.kind) ∧ W.cell? ⟨b2, off2 + j * 4 + 1, none⟩ = some (.int .i64 p.a) ∧ W.cell? ⟨b2, off2 + j * 4 + 2, none⟩ = some (.int .i64 p.b) ∧ W.cell? ⟨b2, off2 + j * 4 + 3, none⟩ = some (.int .i64 p.n)) (first | with_reducible exact HK.out _ HL.out) (fail)
      all_goals
        have hlt9 := HLT.out
        go_wp2_with fail
        go_roundw
        case rel => exact ⟨j + 1, by have := HLT.out; omega, by go_num, Lib.hid (more_trans HM.out HL.out)⟩
        case measure => have := HLT.out; simp [intOf]; omega
    · obtain rfl : j = n := by omega
      go_wp2_with fail
      go_ret
      exact ⟨rfl, HM.out⟩
set_option maxRecDepth 100000 in
set_option maxHeartbeats 2000000 in
theorem same163_same {S T : Nat → Prop} (c : Cg) (v x : Value) (w : World) (hl : c.l.length ≤ maxLen) (h : Row S w 1 c.l.length v (flatC nC c.l)) (hx : Row T w 1 c.l.length x (flatC nC c.l)) :
    Calls Tryz.prog 69 #[gA (v, c), gA (x, c)] w fun e w' => e = .returned (.bool true) ∧ More w w' := by
  have HE := Lib.hid (fun W (hW : More w W) => eq166_same c.l v x W hl (h.below hW.below) (hx.below hW.below))
  obtain ⟨a, cap, rfl, _⟩ := h.shape
  obtain ⟨xa, xc, rfl, _⟩ := hx.shape
  clear h hx hl
  have heq := fun W => run_eqK c.k c.k W
  rw [decide_eq_true rfl] at heq
  unfold gA
  go_enter Tryz.func69, Tryz.ntmps69
  go_wp2_with fail
  refine (HE.out _ (more_trans (more_alloc _ _) (more_alloc _ _))).mono ?_
  rintro e w2 ⟨rfl, hm2⟩
  have HM := Lib.hid (more_trans (more_trans (more_alloc _ _) (more_alloc _ _)) hm2)
  clear hm2
  go_wp2_with fail
  go_ret
  exact ⟨rfl, HM.out⟩
set_option maxRecDepth 100000 in
set_option maxHeartbeats 2000000 in
theorem arr165_same {S T : Nat → Prop} (c : Ar) (v x : Value) (w : World) (hl : c.l.length ≤ maxLen) (h : Row S w 1 c.l.length v (flatC nC c.l)) (hx : Row T w 1 c.l.length x (flatC nC c.l)) :
    Calls Tryz.prog 71 #[.agg #[.int .i64 c.tk, .int .i64 c.hd, v], .agg #[.int .i64 c.tk, .int .i64 c.hd, x]] w fun e w' => e = .returned (.bool true) ∧ More w w' := by
  have HE := Lib.hid (fun W (hW : More w W) => eq166_same c.l v x W hl (h.below hW.below) (hx.below hW.below))
  obtain ⟨a, cap, rfl, _⟩ := h.shape
  obtain ⟨xa, xc, rfl, _⟩ := hx.shape
  clear h hx hl
  go_enter Tryz.func71, Tryz.ntmps71
  go_wp2_with fail
  refine (HE.out _ (more_trans (more_alloc _ _) (more_alloc _ _))).mono ?_
  rintro e w2 ⟨rfl, hm2⟩
  have HM := Lib.hid (more_trans (more_trans (more_alloc _ _) (more_alloc _ _)) hm2)
  clear hm2
  go_wp2_with fail
  go_ret
  exact ⟨rfl, HM.out⟩
set_option maxRecDepth 100000 in
set_option maxHeartbeats 2000000 in
theorem eqf162_same {S T : Nat → Prop} (l m : List GV) (v x : Value) (w : World) (hl : l.length ≤ maxLen) (hlm : l.length = m.length) (h : Row S w 7 l.length v (flatC gC l)) (hx : Row T w 7 m.length x (flatC gC m)) (hshl : ∀ p ∈ l, ∃ a n c, p.1 = .slice a n c) (hshm : ∀ p ∈ m, ∃ a n c, p.1 = .slice a n c) (hsame : ∀ j (h1 : j < l.length) (h2 : j < m.length) W, More w W → Calls Tryz.prog 69 #[.agg #[.int .u8 l[j].2.k.kind, .int .i64 l[j].2.k.a, .int .i64 l[j].2.k.b, .int .i64 l[j].2.k.n, .int .i64 l[j].2.t, .int .i64 l[j].2.d, l[j].1], .agg #[.int .u8 m[j].2.k.kind, .int .i64 m[j].2.k.a, .int .i64 m[j].2.k.b, .int .i64 m[j].2.k.n, .int .i64 m[j].2.t, .int .i64 m[j].2.d, m[j].1]] W (fun e w' => e = .returned (.bool true) ∧ More W w')) :
    Calls Tryz.prog 68 #[v, x, .func (.func 69) #[] #[]] w fun e w' => e = .returned (.bool true) ∧ More w w' := by
  have HC := Lib.hid (show ∀ j (h1 : j < l.length) (h2 : j < m.length) W, More w W → Calls Tryz.prog 69 #[.agg #[.int .u8 l[j].2.k.kind, .int .i64 l[j].2.k.a, .int .i64 l[j].2.k.b, .int .i64 l[j].2.k.n, .int .i64 l[j].2.t, .int .i64 l[j].2.d, l[j].1], .agg #[.int .u8 m[j].2.k.kind, .int .i64 m[j].2.k.a, .int .i64 m[j].2.k.b, .int .i64 m[j].2.k.n, .int .i64 m[j].2.t, .int .i64 m[j].2.d, m[j].1]] W (fun e w' => e = .returned (.bool true) ∧ More W w') from fun j h1 h2 W hW => hsame j h1 h2 W hW)
  have HSL := Lib.hid (show ∀ j (h1 : j < l.length), ∃ a n c, l[j].1 = .slice a n c from fun j h1 => (hshl _ (List.getElem_mem h1)))
  have HSM := Lib.hid (show ∀ j (h1 : j < m.length), ∃ a n c, m[j].1 = .slice a n c from fun j h1 => (hshm _ (List.getElem_mem h1)))
  clear hshl hshm hsame
  obtain ⟨a, cap, rfl, _⟩ := h.shape
  obtain ⟨xa, xc, rfl, _⟩ := hx.shape
  have HR := Lib.hid h; clear h
  have HX := Lib.hid hx; clear hx
  obtain ⟨n, HN⟩ : ∃ n, Hid (m.length = n) := ⟨_, Lib.hid rfl⟩
  have HLN := Lib.hid (show l.length = n by rw [hlm]; exact HN.out)
  rw [HLN.out] at hl
  unfold maxLen at hl
  rw [HLN.out, HN.out]
  clear hlm
  go_enter Tryz.func68, Tryz.ntmps68
  go_wp2_with fail
  go_loopw [17] (fun i wr => ∃ j : Nat, j ≤ n ∧ i = .int .i64 j ∧ Hid (More w wr)) (fun i _ => n - (intOf i).toNat)
  case atStart => exact ⟨0, Nat.zero_le _, rfl, Lib.hid (World.grownBy.refl _ _)⟩
  case round =>
    obtain ⟨j, hj, rfl, HM⟩ := hrel
    obtain ⟨wo, rfl⟩ : ∃ wo : World, wo = wr := ⟨_, rfl⟩
    by_cases hlt : j < n
    · have hjl : j < l.length := by rw [HLN.out]; exact hlt
      have hjm : j < m.length := by rw [HN.out]; exact hlt
      have HCJ := Lib.hid (HC.out j hjl hjm)
      obtain ⟨pa, pn, pc, hp⟩ := HSL.out j hjl
      obtain ⟨qa, qn, qc, hq⟩ := HSM.out j hjm
      obtain ⟨b, off, rfl, _, hc⟩ := HR.out.atC gC_len hjl
      obtain ⟨b2, off2, rfl, _, hd⟩ := HX.out.atC gC_len hjm
      have g0 := HM.out.cell (hc 0 (.int .u8 l[j].2.k.kind) rfl)
      have k0 := HM.out.cell (hd 0 (.int .u8 m[j].2.k.kind) rfl)
      have g1 := HM.out.cell (hc 1 (.int .i64 l[j].2.k.a) rfl)
      have k1 := HM.out.cell (hd 1 (.int .i64 m[j].2.k.a) rfl)
      have g2 := HM.out.cell (hc 2 (.int .i64 l[j].2.k.b) rfl)
      have k2 := HM.out.cell (hd 2 (.int .i64 m[j].2.k.b) rfl)
      have g3 := HM.out.cell (hc 3 (.int .i64 l[j].2.k.n) rfl)
      have k3 := HM.out.cell (hd 3 (.int .i64 m[j].2.k.n) rfl)
      have g4 := HM.out.cell (hc 4 (.int .i64 l[j].2.t) rfl)
      have k4 := HM.out.cell (hd 4 (.int .i64 m[j].2.t) rfl)
      have g5 := HM.out.cell (hc 5 (.int .i64 l[j].2.d) rfl)
      have k5 := HM.out.cell (hd 5 (.int .i64 m[j].2.d) rfl)
      have g6 := HM.out.cell (hc 6 (l[j].1) rfl)
      have k6 := HM.out.cell (hd 6 (m[j].1) rfl)
      rw [Nat.add_zero] at g0 k0
      rw [hp] at HCJ g6
      rw [hq] at HCJ k6
      clear hc hd hp hq
      have HLT := Lib.hid hlt
      generalize l[j].2.k.kind = p0 at *
      generalize m[j].2.k.kind = q0 at *
      generalize l[j].2.k.a = p1 at *
      generalize m[j].2.k.a = q1 at *
      generalize l[j].2.k.b = p2 at *
      generalize m[j].2.k.b = q2 at *
      generalize l[j].2.k.n = p3 at *
      generalize m[j].2.k.n = q3 at *
      generalize l[j].2.t = p4 at *
      generalize m[j].2.t = q4 at *
      generalize l[j].2.d = p5 at *
      generalize m[j].2.d = q5 at *
      clear hjl hjm
      have hji : (j : Int) < n := by omega
      have hbe := cell_lt g0
      have hbg := cell_lt k0
      go_wp2_with fail
      refine (HCJ.out _ (more_trans HM.out (more_trans (more_alloc _ _) (more_alloc _ _)))).mono ?_
      rintro e w2 ⟨rfl, hm2⟩
      have HM2 := Lib.hid (more_trans HM.out (more_trans (more_trans (more_alloc _ _) (more_alloc _ _)) hm2))
      clear hm2 hbe hbg g0 k0 g1 k1 g2 k2 g3 k3 g4 k4 g5 k5 g6 k6
      have hlt9 := HLT.out
      go_wp2_with fail
      go_roundw
      case rel => exact ⟨j + 1, by have := HLT.out; omega, by go_num, HM2⟩
      case measure => have := HLT.out; simp [intOf]; omega
    · obtain rfl : j = n := by omega
      go_wp2_with fail
      go_ret
      exact ⟨rfl, HM.out⟩
set_option maxRecDepth 100000 in
set_option maxHeartbeats 2000000 in
theorem eqf164_same {S T : Nat → Prop} (l m : List AV) (v x : Value) (w : World) (hl : l.length ≤ maxLen) (hlm : l.length = m.length) (h : Row S w 3 l.length v (flatC aC l)) (hx : Row T w 3 m.length x (flatC aC m)) (hshl : ∀ p ∈ l, ∃ a n c, p.1 = .slice a n c) (hshm : ∀ p ∈ m, ∃ a n c, p.1 = .slice a n c) (hsame : ∀ j (h1 : j < l.length) (h2 : j < m.length) W, More w W → Calls Tryz.prog 71 #[.agg #[.int .i64 l[j].2.tk, .int .i64 l[j].2.hd, l[j].1], .agg #[.int .i64 m[j].2.tk, .int .i64 m[j].2.hd, m[j].1]] W (fun e w' => e = .returned (.bool true) ∧ More W w')) :
    Calls Tryz.prog 70 #[v, x, .func (.func 71) #[] #[]] w fun e w' => e = .returned (.bool true) ∧ More w w' := by
  have HC := Lib.hid (show ∀ j (h1 : j < l.length) (h2 : j < m.length) W, More w W → Calls Tryz.prog 71 #[.agg #[.int .i64 l[j].2.tk, .int .i64 l[j].2.hd, l[j].1], .agg #[.int .i64 m[j].2.tk, .int .i64 m[j].2.hd, m[j].1]] W (fun e w' => e = .returned (.bool true) ∧ More W w') from fun j h1 h2 W hW => hsame j h1 h2 W hW)
  have HSL := Lib.hid (show ∀ j (h1 : j < l.length), ∃ a n c, l[j].1 = .slice a n c from fun j h1 => (hshl _ (List.getElem_mem h1)))
  have HSM := Lib.hid (show ∀ j (h1 : j < m.length), ∃ a n c, m[j].1 = .slice a n c from fun j h1 => (hshm _ (List.getElem_mem h1)))
  clear hshl hshm hsame
  obtain ⟨a, cap, rfl, _⟩ := h.shape
  obtain ⟨xa, xc, rfl, _⟩ := hx.shape
  have HR := Lib.hid h; clear h
  have HX := Lib.hid hx; clear hx
  obtain ⟨n, HN⟩ : ∃ n, Hid (m.length = n) := ⟨_, Lib.hid rfl⟩
  have HLN := Lib.hid (show l.length = n by rw [hlm]; exact HN.out)
  rw [HLN.out] at hl
  unfold maxLen at hl
  rw [HLN.out, HN.out]
  clear hlm
  go_enter Tryz.func70, Tryz.ntmps70
  go_wp2_with fail
  go_loopw [17] (fun i wr => ∃ j : Nat, j ≤ n ∧ i = .int .i64 j ∧ Hid (More w wr)) (fun i _ => n - (intOf i).toNat)
  case atStart => exact ⟨0, Nat.zero_le _, rfl, Lib.hid (World.grownBy.refl _ _)⟩
  case round =>
    obtain ⟨j, hj, rfl, HM⟩ := hrel
    obtain ⟨wo, rfl⟩ : ∃ wo : World, wo = wr := ⟨_, rfl⟩
    by_cases hlt : j < n
    · have hjl : j < l.length := by rw [HLN.out]; exact hlt
      have hjm : j < m.length := by rw [HN.out]; exact hlt
      have HCJ := Lib.hid (HC.out j hjl hjm)
      obtain ⟨pa, pn, pc, hp⟩ := HSL.out j hjl
      obtain ⟨qa, qn, qc, hq⟩ := HSM.out j hjm
      obtain ⟨b, off, rfl, _, hc⟩ := HR.out.atC aC_len hjl
      obtain ⟨b2, off2, rfl, _, hd⟩ := HX.out.atC aC_len hjm
      have g0 := HM.out.cell (hc 0 (.int .i64 l[j].2.tk) rfl)
      have k0 := HM.out.cell (hd 0 (.int .i64 m[j].2.tk) rfl)
      have g1 := HM.out.cell (hc 1 (.int .i64 l[j].2.hd) rfl)
      have k1 := HM.out.cell (hd 1 (.int .i64 m[j].2.hd) rfl)
      have g2 := HM.out.cell (hc 2 (l[j].1) rfl)
      have k2 := HM.out.cell (hd 2 (m[j].1) rfl)
      rw [Nat.add_zero] at g0 k0
      rw [hp] at HCJ g2
      rw [hq] at HCJ k2
      clear hc hd hp hq
      have HLT := Lib.hid hlt
      generalize l[j].2.tk = p0 at *
      generalize m[j].2.tk = q0 at *
      generalize l[j].2.hd = p1 at *
      generalize m[j].2.hd = q1 at *
      clear hjl hjm
      have hji : (j : Int) < n := by omega
      have hbe := cell_lt g0
      have hbg := cell_lt k0
      go_wp2_with fail
      refine (HCJ.out _ (more_trans HM.out (more_trans (more_alloc _ _) (more_alloc _ _)))).mono ?_
      rintro e w2 ⟨rfl, hm2⟩
      have HM2 := Lib.hid (more_trans HM.out (more_trans (more_trans (more_alloc _ _) (more_alloc _ _)) hm2))
      clear hm2 hbe hbg g0 k0 g1 k1 g2 k2
      have hlt9 := HLT.out
      go_wp2_with fail
      go_roundw
      case rel => exact ⟨j + 1, by have := HLT.out; omega, by go_num, HM2⟩
      case measure => have := HLT.out; simp [intOf]; omega
    · obtain rfl : j = n := by omega
      go_wp2_with fail
      go_ret
      exact ⟨rfl, HM.out⟩
set_option maxRecDepth 100000 in
set_option maxHeartbeats 2000000 in
theorem eqf115_same {S T : Nat → Prop} (l m : List HV) (v x : Value) (w : World) (hl : l.length ≤ maxLen) (hlm : l.length = m.length) (h : Row S w 4 l.length v (flatC hC l)) (hx : Row T w 4 m.length x (flatC hC m)) (hshl : ∀ p ∈ l, ∃ a n c, p.1 = .slice a n c) (hshm : ∀ p ∈ m, ∃ a n c, p.1 = .slice a n c) (hsame : ∀ j (h1 : j < l.length) (h2 : j < m.length) W, More w W → Calls Tryz.prog 42 #[.agg #[.int .i64 l[j].2.m.f, .int .i64 l[j].2.m.t, .int .i64 l[j].2.m.n, l[j].1], .agg #[.int .i64 m[j].2.m.f, .int .i64 m[j].2.m.t, .int .i64 m[j].2.m.n, m[j].1]] W (fun e w' => e = .returned (.bool true) ∧ More W w')) :
    Calls Tryz.prog 41 #[v, x, .func (.func 42) #[] #[]] w fun e w' => e = .returned (.bool true) ∧ More w w' := by
  have HC := Lib.hid (show ∀ j (h1 : j < l.length) (h2 : j < m.length) W, More w W → Calls Tryz.prog 42 #[.agg #[.int .i64 l[j].2.m.f, .int .i64 l[j].2.m.t, .int .i64 l[j].2.m.n, l[j].1], .agg #[.int .i64 m[j].2.m.f, .int .i64 m[j].2.m.t, .int .i64 m[j].2.m.n, m[j].1]] W (fun e w' => e = .returned (.bool true) ∧ More W w') from fun j h1 h2 W hW => hsame j h1 h2 W hW)
  have HSL := Lib.hid (show ∀ j (h1 : j < l.length), ∃ a n c, l[j].1 = .slice a n c from fun j h1 => (hshl _ (List.getElem_mem h1)))
  have HSM := Lib.hid (show ∀ j (h1 : j < m.length), ∃ a n c, m[j].1 = .slice a n c from fun j h1 => (hshm _ (List.getElem_mem h1)))
  clear hshl hshm hsame
  obtain ⟨a, cap, rfl, _⟩ := h.shape
  obtain ⟨xa, xc, rfl, _⟩ := hx.shape
  have HR := Lib.hid h; clear h
  have HX := Lib.hid hx; clear hx
  obtain ⟨n, HN⟩ : ∃ n, Hid (m.length = n) := ⟨_, Lib.hid rfl⟩
  have HLN := Lib.hid (show l.length = n by rw [hlm]; exact HN.out)
  rw [HLN.out] at hl
  unfold maxLen at hl
  rw [HLN.out, HN.out]
  clear hlm
  go_enter Tryz.func41, Tryz.ntmps41
  go_wp2_with fail
  go_loopw [17] (fun i wr => ∃ j : Nat, j ≤ n ∧ i = .int .i64 j ∧ Hid (More w wr)) (fun i _ => n - (intOf i).toNat)
  case atStart => exact ⟨0, Nat.zero_le _, rfl, Lib.hid (World.grownBy.refl _ _)⟩
  case round =>
    obtain ⟨j, hj, rfl, HM⟩ := hrel
    obtain ⟨wo, rfl⟩ : ∃ wo : World, wo = wr := ⟨_, rfl⟩
    by_cases hlt : j < n
    · have hjl : j < l.length := by rw [HLN.out]; exact hlt
      have hjm : j < m.length := by rw [HN.out]; exact hlt
      have HCJ := Lib.hid (HC.out j hjl hjm)
      obtain ⟨pa, pn, pc, hp⟩ := HSL.out j hjl
      obtain ⟨qa, qn, qc, hq⟩ := HSM.out j hjm
      obtain ⟨b, off, rfl, _, hc⟩ := HR.out.atC hC_len hjl
      obtain ⟨b2, off2, rfl, _, hd⟩ := HX.out.atC hC_len hjm
      have g0 := HM.out.cell (hc 0 (.int .i64 l[j].2.m.f) rfl)
      have k0 := HM.out.cell (hd 0 (.int .i64 m[j].2.m.f) rfl)
      have g1 := HM.out.cell (hc 1 (.int .i64 l[j].2.m.t) rfl)
      have k1 := HM.out.cell (hd 1 (.int .i64 m[j].2.m.t) rfl)
      have g2 := HM.out.cell (hc 2 (.int .i64 l[j].2.m.n) rfl)
      have k2 := HM.out.cell (hd 2 (.int .i64 m[j].2.m.n) rfl)
      have g3 := HM.out.cell (hc 3 (l[j].1) rfl)
      have k3 := HM.out.cell (hd 3 (m[j].1) rfl)
      rw [Nat.add_zero] at g0 k0
      rw [hp] at HCJ g3
      rw [hq] at HCJ k3
      clear hc hd hp hq
      have HLT := Lib.hid hlt
      generalize l[j].2.m.f = p0 at *
      generalize m[j].2.m.f = q0 at *
      generalize l[j].2.m.t = p1 at *
      generalize m[j].2.m.t = q1 at *
      generalize l[j].2.m.n = p2 at *
      generalize m[j].2.m.n = q2 at *
      clear hjl hjm
      have hji : (j : Int) < n := by omega
      have hbe := cell_lt g0
      have hbg := cell_lt k0
      go_wp2_with fail
      refine (HCJ.out _ (more_trans HM.out (more_trans (more_alloc _ _) (more_alloc _ _)))).mono ?_
      rintro e w2 ⟨rfl, hm2⟩
      have HM2 := Lib.hid (more_trans HM.out (more_trans (more_trans (more_alloc _ _) (more_alloc _ _)) hm2))
      clear hm2 hbe hbg g0 k0 g1 k1 g2 k2 g3 k3
      have hlt9 := HLT.out
      go_wp2_with fail
      go_roundw
      case rel => exact ⟨j + 1, by have := HLT.out; omega, by go_num, HM2⟩
      case measure => have := HLT.out; simp [intOf]; omega
    · obtain rfl : j = n := by omega
      go_wp2_with fail
      go_ret
      exact ⟨rfl, HM.out⟩
theorem map_at {α β : Type} {f : α → β} {l m : List α} (h : l.map f = m.map f) {j : Nat} (h1 : j < l.length) (h2 : j < m.length) : f l[j] = f m[j] := by
  have e : (l.map f)[j]? = (m.map f)[j]? := by rw [h]
  simpa [h1, h2] using e
theorem map_len {α β : Type} {f : α → β} {l m : List α} (h : l.map f = m.map f) : l.length = m.length := by
  have := congrArg List.length h
  simpa using this
set_option maxRecDepth 100000 in
set_option maxHeartbeats 2000000 in
theorem set113_same {S T : Nat → Prop} (l m : List GV) (v x : Value) (w : World) (hlm : l.map (·.2) = m.map (·.2)) (h : SetAt S w v l) (hx : SetAt T w x m) (hal : ∀ p ∈ l, p.2.l.length ≤ maxLen) :
    Calls Tryz.prog 39 #[.agg #[v], .agg #[x]] w fun e w' => e = .returned (.bool true) ∧ More w w' := by
  have HC := Lib.hid (fun W (hW : More w W) => eqf162_same l m v x W (by have := h.len; unfold maxLen; omega) (map_len hlm) (h.row.below hW.below) (hx.row.below hW.below) (fun p hp => by obtain ⟨a, c, e, _⟩ := (h.arg p hp).row.shape; exact ⟨a, _, c, e⟩) (fun p hp => by obtain ⟨a, c, e, _⟩ := (hx.arg p hp).row.shape; exact ⟨a, _, c, e⟩)
    (fun j h1 h2 W2 hW2 => by
      have e : l[j].2 = m[j].2 := map_at hlm h1 h2
      have k1 := ((h.arg _ (List.getElem_mem h1)).more (more_trans hW hW2)).row
      have k2 := ((hx.arg _ (List.getElem_mem h2)).more (more_trans hW hW2)).row
      have k3 := hal _ (List.getElem_mem h1)
      generalize l[j] = p at *
      generalize m[j] = q at *
      obtain ⟨p1, p2⟩ := p
      obtain ⟨q1, q2⟩ := q
      dsimp only at e k1 k2 k3 ⊢
      subst e
      exact same163_same p2 p1 q1 W2 k3 k1 k2))
  obtain ⟨a, cap, rfl, _⟩ := h.row.shape
  obtain ⟨xa, xc, rfl, _⟩ := hx.row.shape
  clear h hx hal hlm
  go_enter Tryz.func39, Tryz.ntmps39
  go_wp2_with fail
  refine (HC.out _ (more_trans (more_alloc _ _) (more_alloc _ _))).mono ?_
  rintro e w2 ⟨rfl, hm2⟩
  have HM := Lib.hid (more_trans (more_trans (more_alloc _ _) (more_alloc _ _)) hm2)
  clear hm2
  go_wp2_with fail
  go_ret
  exact ⟨rfl, HM.out⟩
theorem run_eqM_same (x : M3) (w : World) : (binOp .eql 65 (.agg #[.int .i64 x.f, .int .i64 x.t, .int .i64 x.n]) (.agg #[.int .i64 x.f, .int .i64 x.t, .int .i64 x.n])).run Tryz.prog w = .ok (.bool true) w := by
  have h := run_eqM x x w
  rwa [decide_eq_true rfl] at h
set_option maxRecDepth 100000 in
set_option maxHeartbeats 2000000 in
theorem hold116_same {S T : Nat → Prop} (p q : HV) (w : World) (hpq : hoP p = hoP q) (h : HAt S w p) (hx : HAt T w q) :
    Calls Tryz.prog 42 #[hA p, hA q] w fun e w' => e = .returned (.bool true) ∧ More w w' := by
  have e1 : p.2.m = q.2.m := congrArg (·.1) hpq
  have e2 : p.2.al.map (·.2) = q.2.al.map (·.2) := congrArg (·.2) hpq
  have HC := Lib.hid (fun W (hW : More w W) => eqf164_same p.2.al q.2.al p.1 q.1 W h.len (map_len e2) (h.row.below hW.below) (hx.row.below hW.below) (fun p hp => by obtain ⟨a, c, e, _⟩ := (h.arg p hp).1.shape; exact ⟨a, _, c, e⟩) (fun p hp => by obtain ⟨a, c, e, _⟩ := (hx.arg p hp).1.shape; exact ⟨a, _, c, e⟩)
    (fun j h1 h2 W2 hW2 => by
      have e : p.2.al[j].2 = q.2.al[j].2 := map_at e2 h1 h2
      have k1 := (h.arg _ (List.getElem_mem h1)).1.below (more_trans hW hW2).below
      have k2 := (hx.arg _ (List.getElem_mem h2)).1.below (more_trans hW hW2).below
      have k3 := h.lens _ (List.getElem_mem h1)
      generalize p.2.al[j] = p at *
      generalize q.2.al[j] = q at *
      obtain ⟨p1, p2⟩ := p
      obtain ⟨q1, q2⟩ := q
      dsimp only at e k1 k2 k3 ⊢
      subst e
      exact arr165_same p2 p1 q1 W2 k3 k1 k2))
  have heq := fun W => run_eqM_same q.2.m W
  unfold hA
  rw [e1]
  obtain ⟨a, cap, hpv, _⟩ := h.row.shape
  obtain ⟨xa, xc, hqv, _⟩ := hx.row.shape
  rw [hpv, hqv] at HC ⊢
  clear h hx hpv hqv e1 e2 hpq
  generalize q.2.m = mm at *
  go_enter Tryz.func42, Tryz.ntmps42
  go_wp2_with fail
  refine (HC.out _ (more_trans (more_alloc _ _) (more_alloc _ _))).mono ?_
  rintro e w2 ⟨rfl, hm2⟩
  have HM := Lib.hid (more_trans (more_trans (more_alloc _ _) (more_alloc _ _)) hm2)
  clear hm2
  go_wp2_with fail
  go_ret
  exact ⟨rfl, HM.out⟩
set_option maxRecDepth 100000 in
set_option maxHeartbeats 4000000 in
theorem equal58_same (A B : Array Value) (c d : Cert) (fl : List Value) (w : World) (hA : CertAt w A c) (hB : CertAt w B d) (hfl : fl.length = 32) (hfv : ∀ v ∈ fl, ∃ n : Int, v = .int .u8 n) (hfa : ∀ (j : Nat) (v : Value), fl[j]? = some v → A[j]? = some v) (hfb : ∀ (j : Nat) (v : Value), fl[j]? = some v → B[j]? = some v)
    (hq : c.q = d.q) (hh : c.hor = d.hor) (hw : c.wit = d.wit) (hs : c.spl = d.spl) (hS : c.S.map (·.2) = d.S.map (·.2)) (hU : c.U = d.U) (hH : c.H.map hoP = d.H.map hoP) (hal : ∀ p ∈ c.S, p.2.l.length ≤ maxLen) :
    Calls Tryz.prog 13 #[.agg A, .agg B] w fun e w' => e = .returned (.bool true) ∧ More w w' := by
  have C113 := Lib.hid (fun W (hW : More w W) => set113_same c.S d.S c.sv d.sv W hS (hA.set.more hW) (hB.set.more hW) hal)
  have C114 := Lib.hid (fun W (hW : More w W) => eq114_same c.U c.uv d.uv W (by have := hA.ulen; unfold maxLen; omega) (hA.und.below hW.below) (by rw [hU]; exact hB.und.below hW.below))
  have C115 := Lib.hid (fun W (hW : More w W) => eqf115_same c.H d.H c.hv d.hv W (by have := hA.hlen; unfold maxLen; omega) (map_len hH) (hA.hol.below hW.below) (hB.hol.below hW.below) (fun p hp => by obtain ⟨a, cc, e, _⟩ := (hA.each p hp).row.shape; exact ⟨a, _, cc, e⟩) (fun p hp => by obtain ⟨a, cc, e, _⟩ := (hB.each p hp).row.shape; exact ⟨a, _, cc, e⟩)
    (fun j h1 h2 W2 hW2 => hold116_same c.H[j] d.H[j] W2 (map_at hH h1 h2) ((hA.each _ (List.getElem_mem h1)).more (more_trans hW hW2)) ((hB.each _ (List.getElem_mem h2)).more (more_trans hW hW2))))
  have HEF := Lib.hid (eqFl_same hfl hfv)
  have h96i : (Tryz.prog.info? 31).map (·.size) = some fl.length := by rw [hfl]; exact info96
  obtain ⟨q, hor, sva, Sa, uva, U, hva, Ha, wit, spl⟩ := c
  obtain ⟨q', hor', svb, Sb, uvb, U', hvb, Hb, wit', spl'⟩ := d
  dsimp only at hq hh hw hs hU C113 C114 C115
  subst hq; subst hh; subst hw; subst hs; subst hU
  have ssa := hA.set.row.shape
  dsimp only at ssa
  obtain ⟨sa, sca, rfl, _⟩ := ssa
  have ssb := hB.set.row.shape
  dsimp only at ssb
  obtain ⟨sb, scb, rfl, _⟩ := ssb
  have sua := hA.und.shape
  dsimp only at sua
  obtain ⟨ua, uca, rfl, _⟩ := sua
  have sub := hB.und.shape
  dsimp only at sub
  obtain ⟨ub, ucb, rfl, _⟩ := sub
  have sha := hA.hol.shape
  dsimp only at sha
  obtain ⟨ha, hca, rfl, _⟩ := sha
  have shb := hB.hol.shape
  dsimp only at shb
  obtain ⟨hb, hcb, rfl, _⟩ := shb
  obtain ⟨Na, HNa⟩ : ∃ N, Hid (N = w.heap.size) := ⟨_, Lib.hid rfl⟩
  have HB1 := Lib.hid (alloc_last w (.cells A 35))
  have HM1 := Lib.hid (more_alloc w (.cells A 35))
  have HB2 := Lib.hid (alloc_last (w.alloc (.cells A 35)) (.cells B 35))
  have HM2 := Lib.hid (more_alloc (w.alloc (.cells A 35)) (.cells B 35))
  obtain ⟨Nb, HNb⟩ : ∃ N, Hid (N = (w.alloc (.cells A 35)).heap.size) := ⟨_, Lib.hid rfl⟩
  have HNE := Lib.hid (show (w.alloc (.cells A 35)).heap.size = w.heap.size + 1 from World.size_alloc _ _)
  rw [← HNa.out] at HB1
  rw [← HNb.out] at HB2
  have HBA := Lib.hid ((HM2.out.block (blk_lt HB1.out)).trans HB1.out)
  have HMW := Lib.hid (more_trans HM1.out HM2.out)
  have HCA := Lib.hid (show CertAt w A _ from hA)
  have HCB := Lib.hid (show CertAt w B _ from hB)
  have HFA := Lib.hid hfa
  have HFB := Lib.hid hfb
  clear hA hB hfa hfb hfv hS hH hal
  have h96u := Tryz.underlying31
  go_enter Tryz.func13, Tryz.ntmps13
  go_upto_region 1 with (fail)
  rw [← HNa.out]
  try rw [show Na + 1 = Nb by rw [HNb.out, HNE.out, HNa.out]]
  generalize (w.alloc (.cells A 35)).alloc (.cells B 35) = w1 at *
  have HK := Lib.hid (show ∀ W, More w1 W → (W.cell? ⟨Na, 32, none⟩ = some (.string q) ∧ W.cell? ⟨Na, 33, none⟩ = some (.int .i64 hor) ∧ W.cell? ⟨Na, 34, none⟩ = some (.slice sa Sa.length sca) ∧ W.cell? ⟨Na, 35, none⟩ = some (.slice ua U.length uca) ∧ W.cell? ⟨Na, 36, none⟩ = some (.slice ha Ha.length hca) ∧ W.cell? ⟨Na, 37, none⟩ = some (.int .i64 wit) ∧ W.cell? ⟨Na, 38, none⟩ = some (.int .i64 spl) ∧ W.cell? ⟨Nb, 32, none⟩ = some (.string q) ∧ W.cell? ⟨Nb, 33, none⟩ = some (.int .i64 hor) ∧ W.cell? ⟨Nb, 34, none⟩ = some (.slice sb Sb.length scb) ∧ W.cell? ⟨Nb, 35, none⟩ = some (.slice ub U.length ucb) ∧ W.cell? ⟨Nb, 36, none⟩ = some (.slice hb Hb.length hcb) ∧ W.cell? ⟨Nb, 37, none⟩ = some (.int .i64 wit) ∧ W.cell? ⟨Nb, 38, none⟩ = some (.int .i64 spl)) from fun W h => ⟨cell_of_blk ((h.block (blk_lt HBA.out)).trans HBA.out) HCA.out.q, cell_of_blk ((h.block (blk_lt HBA.out)).trans HBA.out) HCA.out.hor, cell_of_blk ((h.block (blk_lt HBA.out)).trans HBA.out) HCA.out.sv, cell_of_blk ((h.block (blk_lt HBA.out)).trans HBA.out) HCA.out.uv, cell_of_blk ((h.block (blk_lt HBA.out)).trans HBA.out) HCA.out.hv, cell_of_blk ((h.block (blk_lt HBA.out)).trans HBA.out) HCA.out.wit, cell_of_blk ((h.block (blk_lt HBA.out)).trans HBA.out) HCA.out.spl, cell_of_blk ((h.block (blk_lt HB2.out)).trans HB2.out) HCB.out.q, cell_of_blk ((h.block (blk_lt HB2.out)).trans HB2.out) HCB.out.hor, cell_of_blk ((h.block (blk_lt HB2.out)).trans HB2.out) HCB.out.sv, cell_of_blk ((h.block (blk_lt HB2.out)).trans HB2.out) HCB.out.uv, cell_of_blk ((h.block (blk_lt HB2.out)).trans HB2.out) HCB.out.hv, cell_of_blk ((h.block (blk_lt HB2.out)).trans HB2.out) HCB.out.wit, cell_of_blk ((h.block (blk_lt HB2.out)).trans HB2.out) HCB.out.spl⟩)
  have hra : w1.rangeAt Na 0 fl := fun j v hv => by rw [Nat.zero_add]; exact cell_of_blk HBA.out (HFA.out j v hv)
  have hrb : w1.rangeAt Nb 0 fl := fun j v hv => by rw [Nat.zero_add]; exact cell_of_blk HB2.out (HFB.out j v hv)
  have heq := fun W => HEF.out W
  obtain ⟨ca32, ca33, ca34, ca35, ca36, ca37, ca38, cb32, cb33, cb34, cb35, cb36, cb37, cb38⟩ := HK.out w1 (World.grownBy.refl _ _)
  go_wp2_with (first | (refine wpList_load_mid rfl 31 _ rfl Na 0 rfl fl _ hra h96u rfl h96i ?_) | (refine wpList_load_mid rfl 31 _ rfl Nb 0 rfl fl _ hrb h96u rfl h96i ?_))
  refine (C113.out _ HMW.out).mono ?_
  rintro e w2 ⟨rfl, hm2⟩
  have HM3 := Lib.hid hm2
  clear hm2 hra hrb ca32 ca33 ca34 ca35 ca36 ca37 ca38 cb32 cb33 cb34 cb35 cb36 cb37 cb38
  obtain ⟨ca32, ca33, ca34, ca35, ca36, ca37, ca38, cb32, cb33, cb34, cb35, cb36, cb37, cb38⟩ := HK.out w2 HM3.out
  go_wp2_with fail
  refine (C114.out _ (more_trans HMW.out HM3.out)).mono ?_
  rintro e w3 ⟨rfl, hm2⟩
  have HM4 := Lib.hid (more_trans HM3.out hm2)
  clear hm2 ca32 ca33 ca34 ca35 ca36 ca37 ca38 cb32 cb33 cb34 cb35 cb36 cb37 cb38
  obtain ⟨ca32, ca33, ca34, ca35, ca36, ca37, ca38, cb32, cb33, cb34, cb35, cb36, cb37, cb38⟩ := HK.out w3 HM4.out
  go_wp2_with fail
  refine (C115.out _ (more_trans HMW.out HM4.out)).mono ?_
  rintro e w4 ⟨rfl, hm2⟩
  have HM5 := Lib.hid (more_trans HM4.out hm2)
  clear hm2 ca32 ca33 ca34 ca35 ca36 ca37 ca38 cb32 cb33 cb34 cb35 cb36 cb37 cb38
  obtain ⟨ca32, ca33, ca34, ca35, ca36, ca37, ca38, cb32, cb33, cb34, cb35, cb36, cb37, cb38⟩ := HK.out w4 HM5.out
  go_wp2_with fail
  go_ret
  exact ⟨rfl, more_trans HMW.out HM5.out⟩
end Go.Proofs.YtemeppfikpafbaaGreatDoor

/- rootcauseref01.Same (59). -/
namespace Go.Proofs.YtemeppfikpafbaaGreatDoor
open Go.RowKit
set_option maxRecDepth 100000 in
set_option maxHeartbeats 1000000 in
theorem same59_any (l m : List Int) (v x : Value) (w : World) (hl : l.length ≤ 140737488355328) (hm : m.length ≤ 140737488355328) (h : ByG w l v) (hx : ByG w m x) :
    Calls Tryz.prog 7 #[v, x] w fun e w' => e = .returned (.bool (decide (l = m))) ∧ More w w' := by
  obtain ⟨a, cap, rfl, _⟩ := h.row.shape
  obtain ⟨xa, xc, rfl, _⟩ := hx.row.shape
  have HR := Lib.hid h; clear h
  have HX := Lib.hid hx; clear hx
  by_cases hn : l.length = m.length
  · obtain ⟨n, HN⟩ : ∃ n, Hid (m.length = n) := ⟨_, Lib.hid rfl⟩
    have HLN := Lib.hid (show l.length = n by rw [hn]; exact HN.out)
    rw [HN.out] at hm ⊢
    rw [HLN.out] at hl ⊢
    clear hn
    go_enter Tryz.func7, Tryz.ntmps7
    go_wp2_with fail
    go_loopw [5] (fun i wr => ∃ j : Nat, j ≤ n ∧ i = .int .i64 j ∧ Hid (More w wr) ∧ Hid (l.take j = m.take j)) (fun i _ => n - (intOf i).toNat)
    case atStart => exact ⟨0, Nat.zero_le _, rfl, Lib.hid (World.grownBy.refl _ _), Lib.hid rfl⟩
    case round =>
      obtain ⟨j, hj, rfl, HM, HT⟩ := hrel
      obtain ⟨wo, rfl⟩ : ∃ wo : World, wo = wr := ⟨_, rfl⟩
      by_cases hlt : j < n
      · have hjl : j < l.length := by rw [HLN.out]; exact hlt
        have hjm : j < m.length := by rw [HN.out]; exact hlt
        obtain ⟨b, off, rfl, _, _, hc⟩ := HR.out.row.at (by omega)
        obtain ⟨b2, off2, rfl, _, _, hd⟩ := HX.out.row.at (by omega)
        have e0 := HM.out.cell (hc j (.int .u8 l[j]) (by simp [bV, hjl]))
        have g0 := HM.out.cell (hd j (.int .u8 m[j]) (by simp [bV, hjm]))
        clear hc hd
        have HT1 := Lib.hid (show l.take (j + 1) = l.take j ++ [l[j]] from List.take_succ_eq_append_getElem hjl)
        have HT2 := Lib.hid (show m.take (j + 1) = m.take j ++ [m[j]] from List.take_succ_eq_append_getElem hjm)
        have HNE := Lib.hid (show l[j] ≠ m[j] → l ≠ m from fun h e => h (by subst e; rfl))
        have HLT := Lib.hid hlt
        generalize l[j] = p at *
        generalize m[j] = q at *
        clear hjl hjm
        have hji : (j : Int) < n := by omega
        have hbe := cell_lt e0
        have hbg := cell_lt g0
        have HL := Lib.hid (more_drew wo)
        have HK := Lib.hid (show ∀ W, More wo W → (W.cell? ⟨b, off + j, none⟩ = some (.int .u8 p) ∧ W.cell? ⟨b2, off2 + j, none⟩ = some (.int .u8 q)) from fun W h => ⟨h.cell e0, h.cell g0⟩)
        by_cases hpq : p = q
        · subst hpq
          go_upto_region 6 with (fail)
          go_region_held3 (fun W => W.cell? ⟨b, off + j, none⟩ = some (.int .u8 p) ∧ W.cell? ⟨b2, off2 + j, none⟩ = some (.int .u8 p)) (first | with_reducible exact HK.out _ HL.out) (fail)
          all_goals
            have hlt9 := HLT.out
            go_wp2_with fail
            go_roundw
            case rel => exact ⟨j + 1, by have := HLT.out; omega, by go_num, Lib.hid (more_trans HM.out HL.out), Lib.hid (by rw [HT1.out, HT2.out, HT.out])⟩
            case measure => have := HLT.out; simp [intOf]; omega
        · have hne : (p != q) = true := by simpa using hpq
          have HD := Lib.hid (show decide (l = m) = false from decide_eq_false (HNE.out hpq))
          go_upto_region 6 with (fail)
          go_region_held3 (fun W => W.cell? ⟨b, off + j, none⟩ = some (.int .u8 p) ∧ W.cell? ⟨b2, off2 + j, none⟩ = some (.int .u8 q)) (first | with_reducible exact HK.out _ HL.out) (fail)
          all_goals
            go_wp2_with fail
            go_ret
            exact ⟨by rw [HD.out]; rfl, more_trans HM.out HL.out⟩
      · obtain rfl : j = n := by omega
        have HD := Lib.hid (show decide (l = m) = true from decide_eq_true (by
          have h1 := HT.out
          rwa [List.take_of_length_le (by rw [HLN.out]; exact Nat.le_refl _), List.take_of_length_le (by rw [HN.out]; exact Nat.le_refl _)] at h1))
        go_wp2_with fail
        go_ret
        exact ⟨by rw [HD.out]; rfl, HM.out⟩
  · have HD := Lib.hid (show decide (l = m) = false from decide_eq_false (fun e => hn (by rw [e])))
    have hne : ((l.length : Int) != m.length) = true := by rw [bne_iff_ne]; omega
    go_enter Tryz.func7, Tryz.ntmps7
    go_wp2_with fail
    go_ret
    exact ⟨by rw [HD.out]; rfl, World.grownBy.refl _ _⟩
end Go.Proofs.YtemeppfikpafbaaGreatDoor

/- The walk of CertificateReads (18). -/
namespace Go.Proofs.YtemeppfikpafbaaGreatDoor
open Go.RowKit
def byteAt (arr : Array Value) (i : Nat) : Int := match arr[i]? with | some (.int _ n) => n | _ => 0
theorem certFl {arr : Array Value} {c : Cert} (h : CertOk arr c) : ∃ fl : List Int, fl.length = 32 ∧ Byts fl ∧ ∀ (j : Nat) (n : Int), fl[j]? = some n → arr[j]? = some (.int .u8 n) := by
  refine ⟨(List.range 32).map (byteAt arr), by simp, fun b hb => ?_, fun j n hj => ?_⟩
  · obtain ⟨i, hi, rfl⟩ := List.mem_map.1 hb
    obtain ⟨n, hn, h0, h1⟩ := h.fl i (List.mem_range.1 hi)
    unfold byteAt
    rw [hn]
    exact ⟨h0, h1⟩
  · rw [List.getElem?_map, Option.map_eq_some_iff] at hj
    obtain ⟨i, hi, rfl⟩ := hj
    obtain ⟨hl, hi⟩ := List.getElem?_eq_some_iff.1 hi
    rw [List.getElem_range] at hi
    subst hi
    rw [List.length_range] at hl
    obtain ⟨n, hn, _⟩ := h.fl j hl
    unfold byteAt
    rw [hn]
theorem Byts.set {l : List Int} (h : Byts l) (j : Nat) {v : Int} (hv : 0 ≤ v ∧ v ≤ 255) : Byts (l.set j v) := fun b hb => by
  rcases List.mem_or_eq_of_mem_set hb with k | k
  · exact h b k
  · subst k; exact hv
theorem cert_ones2 {w : World} {arr : Array Value} {c : Cert} (h : CertAt w arr c) (k : ∀ i, i < 32 → ∃ n : Int, arr[i]? = some (.int .u8 n)) : arr.all (·.oneCell') = true :=
  CertS.ones (S := anyB) (w := w) (c := c) ⟨h.size, h.q, h.hor, h.sv, h.uv, h.hv, h.wit, h.spl, h.set, h.und, h.hol, h.each, h.ulen, h.hlen⟩ k
end Go.Proofs.YtemeppfikpafbaaGreatDoor

/- digest: rotr (84), bits.RotateLeft32 (104), eight (60), New (27). -/
namespace Go.Proofs.YtemeppfikpafbaaGreatDoor
open Go.RowKit
def rotF (x : Int) (s : Nat) : Int := bits .or .u32 (x * 2 ^ s % 4294967296) (x / 2 ^ (32 - s))
theorem rl104_any (x k : Int) (s : Nat) (w : World) (hs : bits .and .u64 (IntKind.u64.wrap k) 31 = (s : Int)) (hs1 : s ≤ 31) :
    Calls Tryz.prog 104 #[.int .u32 x, .int .i64 k] w fun e w' => e = .returned (.int .u32 (rotF x s)) ∧ w' = w := by
  unfold rotF
  go_enter Tryz.func104, Tryz.ntmps104
  go_wp2_with fail
  go_ret
  exact ⟨rfl, rfl⟩
theorem rot_k : ∀ n : Fin 32, 0 < n.val → bits .and .u64 (IntKind.u64.wrap (IntKind.i64.wrap (-(n.val : Int)))) 31 = ((32 - n.val : Nat) : Int) := by decide +kernel
theorem rotr84_any (x : Int) (n : Nat) (w : World) (h0 : 0 < n) (h1 : n < 32) :
    Calls Tryz.prog 84 #[.int .u32 x, .int .i64 n] w fun e w' => e = .returned (.int .u32 (rotF x (32 - n))) ∧ w' = w := by
  have HC := Lib.hid (fun W => rl104_any x (IntKind.i64.wrap (-(n : Int))) (32 - n) W (rot_k ⟨n, h1⟩ h0) (by omega))
  have hw : IntKind.i64.wrap (-(n : Int)) = -(n : Int) := by rw [IntKind.wrap_i64]; omega
  rw [hw] at HC
  generalize rotF x (32 - n) = r at *
  go_enter Tryz.func84, Tryz.ntmps84
  go_wp2_with fail
  refine (HC.out _).mono ?_
  rintro e w2 ⟨rfl, hw2⟩
  subst hw2
  go_wp2_with fail
  go_ret
  exact ⟨rfl, rfl⟩
/-- The eight bytes of a number, the most significant one first. -/
def eightF (n : Int) : Nat → List Int
  | 0 => []
  | j + 1 => eightF n j ++ [n / 2 ^ (56 - 8 * j) % 256]
end Go.Proofs.YtemeppfikpafbaaGreatDoor

/- SHA-256 in plain words, and a hash in memory. -/
namespace Go.Proofs.YtemeppfikpafbaaGreatDoor
open Go.RowKit
def uV (l : List Int) : List Value := l.map (Value.int .u32)
theorem uV_at (l : List Int) (j : Nat) (h : j < l.length) : (uV l)[j]? = some (Value.int .u32 (l.getD j 0)) := by
  unfold uV
  rw [List.getElem?_map, List.getD_eq_getElem?_getD, List.getElem?_eq_getElem h]
  rfl
theorem uV_set (l : List Int) (j : Nat) (x : Int) : (uV l).toArray.setIfInBounds j (Value.int .u32 x) = (uV (l.set j x)).toArray := by
  unfold uV
  rw [List.setIfInBounds_toArray, List.map_set]
/-- A hash in memory. -/
structure HashAt (W : World) (hb : Nat) (ws bs : List Int) (tot : Int) : Prop where
  blk : W.heap[hb]? = some (.cells (uV ws ++ (bV bs ++ [Value.int .u64 tot])).toArray 112)
  wl : ws.length = 8
  bl : bs.length = 64
theorem HashAt.w {W : World} {hb : Nat} {ws bs : List Int} {tot : Int} (h : HashAt W hb ws bs tot) {j : Nat} (hj : j < 8) : W.cell? ⟨hb, j, none⟩ = some (.int .u32 (ws.getD j 0)) :=
  cell_of_blk h.blk (by rw [List.getElem?_toArray, List.getElem?_append_left (by unfold uV; rw [List.length_map, h.wl]; exact hj)]; exact uV_at ws j (by rw [h.wl]; exact hj))
theorem HashAt.b {W : World} {hb : Nat} {ws bs : List Int} {tot : Int} (h : HashAt W hb ws bs tot) {j : Nat} (hj : j < 64) : W.cell? ⟨hb, 8 + j, none⟩ = some (.int .u8 (bs.getD j 0)) :=
  cell_of_blk h.blk (by
    have hl : (uV ws).length = 8 := by unfold uV; rw [List.length_map, h.wl]
    rw [List.getElem?_toArray, List.getElem?_append_right (by omega), hl, List.getElem?_append_left (by unfold bV; rw [List.length_map, h.bl]; omega)]
    unfold bV
    rw [List.getElem?_map, show 8 + j - 8 = j by omega, List.getD_eq_getElem?_getD, List.getElem?_eq_getElem (by rw [h.bl]; exact hj)]
    rfl)
theorem HashAt.t {W : World} {hb : Nat} {ws bs : List Int} {tot : Int} (h : HashAt W hb ws bs tot) : W.cell? ⟨hb, 72, none⟩ = some (.int .u64 tot) :=
  cell_of_blk h.blk (by
    have hl : (uV ws).length = 8 := by unfold uV; rw [List.length_map, h.wl]
    have hb2 : (bV bs).length = 64 := by unfold bV; rw [List.length_map, h.bl]
    rw [List.getElem?_toArray, List.getElem?_append_right (by omega), hl, List.getElem?_append_right (by omega), hb2]
    rfl)
theorem HashAt.keep {W W' : World} {hb : Nat} {ws bs : List Int} {tot : Int} (h : HashAt W hb ws bs tot) (k : W'.heap[hb]? = W.heap[hb]?) : HashAt W' hb ws bs tot := ⟨k.trans h.blk, h.wl, h.bl⟩
theorem len110 : Tryz.prog.arrayLen 110 = 64 := by kernel_rfl
theorem slice110 (hb j : Nat) (hj : j < 16) (w : World) : (Instr.sliceAt 110 (.pointer (some ⟨hb, 8, none⟩)) (some (.int .i64 (4 * j))) (some (.int .i64 (4 * j + 4))) none).run Tryz.prog w = .ok (.slice (some ⟨hb, 8 + 4 * j, none⟩) 4 (64 - 4 * j)) w := by
  have h := run_sliceAt_array_lh (P := Tryz.prog) w 110 ⟨hb, 8, none⟩ (by kernel_rfl) .i64 .i64 (4 * j) (4 * j + 4) (by omega) (by omega) (by rw [len110]; omega)
  rw [h, len110, show Tryz.prog.elem 110 = 5 by kernel_rfl]
  obtain ⟨i5, hi, _⟩ := info_parts infoB
  rw [run_sizeOf w hi, show Tryz.prog.cellsOf 5 = 1 by kernel_rfl]
  have e1 : (4 * (j : Int)).toNat = 4 * j := by omega
  have e2 : (4 * (j : Int) + 4).toNat = 4 * j + 4 := by omega
  simp only [Result.andThen_ok, slicedAt, e1, e2]
  rw [if_neg (by omega), Addr.add_mid, Nat.mul_one, show 4 * j + 4 - 4 * j = 4 by omega]
theorem len140 : Tryz.prog.arrayLen 140 = 64 := by kernel_rfl
theorem len109 : Tryz.prog.arrayLen 109 = 8 := by kernel_rfl
theorem info108 : (Tryz.prog.info? 108).map (fun i => (i.zero, i.size, i.bytes)) = some (some (.int .u32 0), 1, 4) := by kernel_rfl
theorem idx140 (N : Nat) (x : Int) (j : Nat) (hx : x = j) (hj : j < 64) (w : World) : (Instr.indexAt 140 (.pointer (some ⟨N, 0, none⟩)) (.int .i64 x)).run Tryz.prog w = .ok (.pointer (some ⟨N, j, none⟩)) w := by
  subst hx
  have h := run_indexAt_array (P := Tryz.prog) w 140 ⟨N, 0, none⟩ .i64 j (by kernel_rfl)
  obtain ⟨i5, hi, _⟩ := info_parts info108
  rw [h, len140, if_pos ⟨by omega, by omega⟩, show Tryz.prog.elem 140 = 108 by kernel_rfl, run_sizeOf w hi, show Tryz.prog.cellsOf 108 = 1 by kernel_rfl]
  simp only [Result.andThen_ok, Int.toNat_natCast, Nat.mul_one]
  rw [Addr.add_mid, Nat.zero_add]
theorem idx109 (N : Nat) (x : Int) (j : Nat) (hx : x = j) (hj : j < 8) (w : World) : (Instr.indexAt 109 (.pointer (some ⟨N, 0, none⟩)) (.int .i64 x)).run Tryz.prog w = .ok (.pointer (some ⟨N, j, none⟩)) w := by
  subst hx
  have h := run_indexAt_array (P := Tryz.prog) w 109 ⟨N, 0, none⟩ .i64 j (by kernel_rfl)
  obtain ⟨i5, hi, _⟩ := info_parts info108
  rw [h, len109, if_pos ⟨by omega, by omega⟩, show Tryz.prog.elem 109 = 108 by kernel_rfl, run_sizeOf w hi, show Tryz.prog.cellsOf 108 = 1 by kernel_rfl]
  simp only [Result.andThen_ok, Int.toNat_natCast, Nat.mul_one]
  rw [Addr.add_mid, Nat.zero_add]
/-- The word that four bytes make. -/
def wr (x : Int) : Int := IntKind.u32.wrap x
def word4 (x0 x1 x2 x3 : Int) : Int := bits .or .u32 (bits .or .u32 (bits .or .u32 (IntKind.u32.wrap (IntKind.u32.wrap x0 * 16777216)) (IntKind.u32.wrap (IntKind.u32.wrap x1 * 65536))) (IntKind.u32.wrap (IntKind.u32.wrap x2 * 256))) (IntKind.u32.wrap x3)
def word0 (bs : List Int) (i : Nat) : Int := word4 (bs.getD (4 * i) 0) (bs.getD (4 * i + 1) 0) (bs.getD (4 * i + 2) 0) (bs.getD (4 * i + 3) 0)
def wL (bs : List Int) : Nat → List Int
  | 0 => List.replicate 64 0
  | j + 1 => (wL bs j).set j (word0 bs j)
theorem wL_len (bs : List Int) : ∀ j, (wL bs j).length = 64
  | 0 => by simp [wL]
  | j + 1 => by rw [wL, List.length_set, wL_len bs j]
def stepW (a b x y : Int) : Int := IntKind.u32.wrap (IntKind.u32.wrap (IntKind.u32.wrap (a + bits .xor .u32 (bits .xor .u32 (rotF x 25) (rotF x 14)) (x / 8)) + b) + bits .xor .u32 (bits .xor .u32 (rotF y 15) (rotF y 13)) (y / 1024))
def wX (bs : List Int) : Nat → List Int
  | 0 => wL bs 16
  | k + 1 => (wX bs k).set (16 + k) (stepW ((wX bs k).getD (16 + k - 16) 0) ((wX bs k).getD (16 + k - 7) 0) ((wX bs k).getD (16 + k - 15) 0) ((wX bs k).getD (16 + k - 2) 0))
theorem wX_start (bs : List Int) {j : Nat} (h : j = 16) : wX bs 0 = wL bs j := by subst h; rfl
theorem wX_len (bs : List Int) : ∀ j, (wX bs j).length = 64
  | 0 => wL_len bs 16
  | j + 1 => by rw [wX, List.length_set, wX_len bs j]
theorem HashAt.uvl {W : World} {hb : Nat} {ws bs : List Int} {tot : Int} (h : HashAt W hb ws bs tot) : (uV ws).length = 8 := by unfold uV; rw [List.length_map, h.wl]
/-- The package's constants, in block 0. -/
def GlobK (w : World) (KK : List Int) : Prop := 0 < w.heap.size ∧ ∀ j, j < 64 → w.cell? ⟨0, j, none⟩ = some (.int .u32 (KK.getD j 0))
theorem GlobK.keep {w w' : World} {KK : List Int} (h : GlobK w KK) (hs : w.heap.size ≤ w'.heap.size) (k : w'.heap[0]? = w.heap[0]?) : GlobK w' KK :=
  ⟨Nat.lt_of_lt_of_le h.1 hs, fun j hj => by rw [← h.2 j hj]; exact World.cell?_of_block (w := w) (a := ⟨0, j, none⟩) k⟩
theorem list8 {l : List Int} (h : l.length = 8) : ∃ a0 a1 a2 a3 a4 a5 a6 a7, l = [a0, a1, a2, a3, a4, a5, a6, a7] :=
  match l, h with
  | [a0, a1, a2, a3, a4, a5, a6, a7], _ => ⟨a0, a1, a2, a3, a4, a5, a6, a7, rfl⟩
def t1F (k w e f g h : Int) : Int := ((h + bits .xor .u32 (bits .xor .u32 (rotF e 26) (rotF e 21)) (rotF e 7) + bits .xor .u32 (bits .and .u32 e f) (bits .and .u32 (bits .xor .u32 (if IntKind.u32.signed = true then -1 else IntKind.u32.max) e) g) + k) % 4294967296 + w) % 4294967296
def t2F (a b c : Int) : Int := (bits .xor .u32 (bits .xor .u32 (rotF a 30) (rotF a 19)) (rotF a 10) + bits .xor .u32 (bits .xor .u32 (bits .and .u32 a b) (bits .and .u32 a c)) (bits .and .u32 b c)) % 4294967296
def stepR (k w : Int) : List Int → List Int
  | [a, b, c, d, e, f, g, h] => [(t1F k w e f g h + t2F a b c) % 4294967296, a, b, c, (d + t1F k w e f g h) % 4294967296, e, f, g]
  | l => l
theorem stepR_len {k w : Int} {l : List Int} (h : l.length = 8) : (stepR k w l).length = 8 := by
  obtain ⟨a0, a1, a2, a3, a4, a5, a6, a7, rfl⟩ := list8 h
  rfl
def sR (KK W : List Int) (l : List Int) : Nat → List Int
  | 0 => l
  | j + 1 => stepR (KK.getD j 0) (W.getD j 0) (sR KK W l j)
theorem sR_len {KK W l : List Int} (h : l.length = 8) : ∀ j, (sR KK W l j).length = 8
  | 0 => h
  | j + 1 => stepR_len (sR_len h j)
def wsAdd (ws s : List Int) : Nat → List Int
  | 0 => ws
  | j + 1 => (wsAdd ws s j).set j (((wsAdd ws s j).getD j 0 + s.getD j 0) % 4294967296)
/-- The words behind a block. -/
def mixF (KK ws bs : List Int) : List Int := wsAdd ws (sR KK (wX bs 48) ws 64) 8
theorem mixF_eq {KK ws bs W s : List Int} {k m j : Nat} (hk : k = 48) (hm : m = 64) (hj : j = 8) (hW : wX bs k = W) (hs : sR KK W ws m = s) : wsAdd ws s j = mixF KK ws bs := by
  subst hW; subst hs; rw [hk, hm, hj]; rfl
theorem HashAt.setW {W : World} {hb : Nat} {ws bs : List Int} {tot : Int} (h : HashAt W hb ws bs tot) (j : Nat) (x : Int) (hj : j < 8) : HashAt (W.setCell ⟨hb, j, none⟩ (.int .u32 x)) hb (ws.set j x) bs tot := by
  refine ⟨?_, by rw [List.length_set]; exact h.wl, h.bl⟩
  have e : (uV (ws.set j x) ++ (bV bs ++ [Value.int .u64 tot])).toArray = (uV ws ++ (bV bs ++ [Value.int .u64 tot])).toArray.setIfInBounds j (Value.int .u32 x) := by
    rw [List.setIfInBounds_toArray, List.set_append_left _ _ (by rw [h.uvl]; exact hj)]
    unfold uV
    rw [List.map_set]
  rw [e]
  exact setCell_heap h.blk
theorem grown_set {w W : World} {hb o : Nat} {v : Value} (h : w.grownBy W (some hb)) : w.grownBy (W.setCell ⟨hb, o, none⟩ v) (some hb) :=
  ⟨h.os, h.tape, h.output, by rw [World.size_setCell]; exact h.size, fun k hk hne => (Below.heap_setCell _ _ _ _ (fun e => hne (by rw [e]))).trans (h.block k hk hne)⟩
theorem grown_drew' {w W : World} {g : Option Nat} (h : w.grownBy W g) : w.grownBy W.drew g := ⟨h.os, h.tape, h.output, h.size, h.block⟩
theorem below_grown {w W : World} {hb : Nat} (h : Below w.heap.size w W) : w.grownBy W (some hb) := ⟨h.os, h.tape, h.output, h.size, fun k hk _ => h.block k hk⟩
theorem index109_0 (b0 b1 b2 b3 b4 b5 b6 b7 : Int) (w : World) : (Instr.index 109 (.agg #[.int .u32 b0, .int .u32 b1, .int .u32 b2, .int .u32 b3, .int .u32 b4, .int .u32 b5, .int .u32 b6, .int .u32 b7]) (.int .i64 0)).run Tryz.prog w = .ok (.int .u32 b0) w := by kernel_rfl
theorem index109_1 (b0 b1 b2 b3 b4 b5 b6 b7 : Int) (w : World) : (Instr.index 109 (.agg #[.int .u32 b0, .int .u32 b1, .int .u32 b2, .int .u32 b3, .int .u32 b4, .int .u32 b5, .int .u32 b6, .int .u32 b7]) (.int .i64 1)).run Tryz.prog w = .ok (.int .u32 b1) w := by kernel_rfl
theorem index109_2 (b0 b1 b2 b3 b4 b5 b6 b7 : Int) (w : World) : (Instr.index 109 (.agg #[.int .u32 b0, .int .u32 b1, .int .u32 b2, .int .u32 b3, .int .u32 b4, .int .u32 b5, .int .u32 b6, .int .u32 b7]) (.int .i64 2)).run Tryz.prog w = .ok (.int .u32 b2) w := by kernel_rfl
theorem index109_3 (b0 b1 b2 b3 b4 b5 b6 b7 : Int) (w : World) : (Instr.index 109 (.agg #[.int .u32 b0, .int .u32 b1, .int .u32 b2, .int .u32 b3, .int .u32 b4, .int .u32 b5, .int .u32 b6, .int .u32 b7]) (.int .i64 3)).run Tryz.prog w = .ok (.int .u32 b3) w := by kernel_rfl
theorem index109_4 (b0 b1 b2 b3 b4 b5 b6 b7 : Int) (w : World) : (Instr.index 109 (.agg #[.int .u32 b0, .int .u32 b1, .int .u32 b2, .int .u32 b3, .int .u32 b4, .int .u32 b5, .int .u32 b6, .int .u32 b7]) (.int .i64 4)).run Tryz.prog w = .ok (.int .u32 b4) w := by kernel_rfl
theorem index109_5 (b0 b1 b2 b3 b4 b5 b6 b7 : Int) (w : World) : (Instr.index 109 (.agg #[.int .u32 b0, .int .u32 b1, .int .u32 b2, .int .u32 b3, .int .u32 b4, .int .u32 b5, .int .u32 b6, .int .u32 b7]) (.int .i64 5)).run Tryz.prog w = .ok (.int .u32 b5) w := by kernel_rfl
theorem index109_6 (b0 b1 b2 b3 b4 b5 b6 b7 : Int) (w : World) : (Instr.index 109 (.agg #[.int .u32 b0, .int .u32 b1, .int .u32 b2, .int .u32 b3, .int .u32 b4, .int .u32 b5, .int .u32 b6, .int .u32 b7]) (.int .i64 6)).run Tryz.prog w = .ok (.int .u32 b6) w := by kernel_rfl
theorem index109_7 (b0 b1 b2 b3 b4 b5 b6 b7 : Int) (w : World) : (Instr.index 109 (.agg #[.int .u32 b0, .int .u32 b1, .int .u32 b2, .int .u32 b3, .int .u32 b4, .int .u32 b5, .int .u32 b6, .int .u32 b7]) (.int .i64 7)).run Tryz.prog w = .ok (.int .u32 b7) w := by kernel_rfl
theorem index109 (b0 b1 b2 b3 b4 b5 b6 b7 : Int) (j : Nat) (hj : j < 8) (w : World) : (Instr.index 109 (.agg #[.int .u32 b0, .int .u32 b1, .int .u32 b2, .int .u32 b3, .int .u32 b4, .int .u32 b5, .int .u32 b6, .int .u32 b7]) (.int .i64 j)).run Tryz.prog w = .ok (.int .u32 ([b0, b1, b2, b3, b4, b5, b6, b7].getD j 0)) w := by
  have h : j = 0 ∨ j = 1 ∨ j = 2 ∨ j = 3 ∨ j = 4 ∨ j = 5 ∨ j = 6 ∨ j = 7 := by omega
  rcases h with h | h | h | h | h | h | h | h
  · subst h; exact index109_0 b0 b1 b2 b3 b4 b5 b6 b7 w
  · subst h; exact index109_1 b0 b1 b2 b3 b4 b5 b6 b7 w
  · subst h; exact index109_2 b0 b1 b2 b3 b4 b5 b6 b7 w
  · subst h; exact index109_3 b0 b1 b2 b3 b4 b5 b6 b7 w
  · subst h; exact index109_4 b0 b1 b2 b3 b4 b5 b6 b7 w
  · subst h; exact index109_5 b0 b1 b2 b3 b4 b5 b6 b7 w
  · subst h; exact index109_6 b0 b1 b2 b3 b4 b5 b6 b7 w
  · subst h; exact index109_7 b0 b1 b2 b3 b4 b5 b6 b7 w
end Go.Proofs.YtemeppfikpafbaaGreatDoor

