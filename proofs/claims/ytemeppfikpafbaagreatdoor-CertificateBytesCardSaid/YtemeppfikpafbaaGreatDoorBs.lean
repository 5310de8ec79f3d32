/- Texts RawG, RonG, laid together. -/
import Derived.Deep.DeepCutAuto
import Derived.Deep.RegionHeldLaw
import Derived.Test.YtemeppfikpafbaaGreatDoorBd
import Derived.Test.YtemeppfikpafbaaGreatDoorBl
import Derived.Test.YtemeppfikpafbaaGreatDoorBq
import Derived.Test.YtemeppfikpafbaaGreatDoorBr
/- The argument Raw, a whole certificate: small facts for the walks of the laws. -/
namespace Go.Proofs.YtemeppfikpafbaaGreatDoor
open Go.RowKit
theorem raw_size (x : RawC) : x.cells.toArray.size = 12 := rfl
theorem info94 : (Tryz.prog.info? 28).map (·.size) = some 12 := by kernel_rfl
theorem wpList_load94 {ops : Array Oper} {rest : List Oper} {o : Oper} {a : Act} {w : World} {Q : Exit → Act → World → Prop} (hgd : o.guard = none) (x : Operand) (ho : o.op = .load 28 x) (g : Nat) (hx : a.eval x = .pointer (some ⟨g, 0, none⟩)) (cs : Array Value) (hg : w.heap[g]? = some (.cells cs 28)) (hs : cs.size = 12)
    (h : wpList Tryz.prog ops Q rest (a.put o.dst (.agg cs)) w) : wpList Tryz.prog ops Q (o :: rest) a w :=
  wpList_plain hgd fun _ hK => wp_load_row 28 x ho g hx 28 cs (0, 0) _ hg Tryz.underlying28 rfl (by rw [hs]; exact info94) (hK _ _ h)
theorem cert_ones {w : World} {arr : Array Value} {c : Cert} (h : CertAt w arr c) (k : CertOk arr c) : arr.all (·.oneCell') = true := by
  obtain ⟨a1, c1, e1, _⟩ := h.set.row.shape
  obtain ⟨a2, c2, e2, _⟩ := h.und.shape
  obtain ⟨a3, c3, e3, _⟩ := h.hol.shape
  rw [Array.all_eq_true_iff_forall_mem]
  intro v hv
  obtain ⟨i, hi, e⟩ := Array.getElem_of_mem hv
  have hsz := h.size
  have hg : arr[i]? = some v := by rw [← e]; exact Array.getElem?_eq_getElem hi
  by_cases h32 : i < 32
  · obtain ⟨n, hn, _⟩ := k.fl i h32
    rw [hn] at hg; cases hg; rfl
  · have hj : i = 32 ∨ i = 33 ∨ i = 34 ∨ i = 35 ∨ i = 36 ∨ i = 37 ∨ i = 38 := by omega
    rcases hj with rfl | rfl | rfl | rfl | rfl | rfl | rfl
    · rw [h.q] at hg; cases hg; rfl
    · rw [h.hor] at hg; cases hg; rfl
    · rw [h.sv, e1] at hg; cases hg; rfl
    · rw [h.uv, e2] at hg; cases hg; rfl
    · rw [h.hv, e3] at hg; cases hg; rfl
    · rw [h.wit] at hg; cases hg; rfl
    · rw [h.spl] at hg; cases hg; rfl
theorem RawC.Ok.more {w w' : World} {x : RawC} (h : x.Ok w) (hm : More w w') : x.Ok w' :=
  ⟨h.fl, h.q, h.hor, h.wit, h.spl, h.C.below hm.below, fun p hp => ⟨(h.Ce p hp).arg.more hm, (h.Ce p hp).key, (h.Ce p hp).t, (h.Ce p hp).d, (h.Ce p hp).len, (h.Ce p hp).i64⟩, h.Cl, h.U.below hm.below, h.Ue, h.Ul, h.H.below hm.below, fun p hp => ⟨(h.He p hp).at'.more hm, (h.He p hp).m, fun a ha => ⟨((h.He p hp).ars a ha).row.below hm.below, ((h.He p hp).ars a ha).nil, ((h.He p hp).ars a ha).tk, ((h.He p hp).ars a ha).hd, ((h.He p hp).ars a ha).len, ((h.He p hp).ars a ha).i64⟩⟩, h.Hl, h.O.below hm.below, h.Oe, h.Ol⟩
end Go.Proofs.YtemeppfikpafbaaGreatDoor

/- choice.readOne (159). -/
namespace Go.Proofs.YtemeppfikpafbaaGreatDoor
open Go.RowKit
/-- n numbers, one behind the other. -/
def rUs (most : Nat) : Nat → RS → List Nat × RS
  | 0, s => ([], s)
  | n + 1, s => let r := rUs most n s; let q := rUint most r.2; (r.1 ++ [q.1], q.2)
def rInts : Nat → RS → List Int × RS
  | 0, s => ([], s)
  | n + 1, s => let r := rInts n s; let q := rInt r.2; (r.1 ++ [q.1], q.2)
theorem rUs_len (most n : Nat) (s : RS) : (rUs most n s).1.length = n := by
  induction n with
  | zero => rfl
  | succ n ih => simp [rUs, ih]
theorem rInts_len (n : Nat) (s : RS) : (rInts n s).1.length = n := by
  induction n with
  | zero => rfl
  | succ n ih => simp [rInts, ih]
theorem rUint_le (most : Nat) (s : RS) : (rUint most s).1 ≤ most := by
  unfold rUint
  split
  · split
    · exact Nat.zero_le _
    · split
      · assumption
      · exact Nat.zero_le _
  · exact Nat.zero_le _
/-- A choice is read. -/
def rOne (s : RS) : Cg × RS :=
  let k := rByte s
  let u := rUs 65535 5 k.2
  let c := rUint 4 u.2
  let a := rInts c.1 c.2
  (⟨⟨k.1, (u.1.getD 0 0 : Nat), (u.1.getD 1 0 : Nat), (u.1.getD 2 0 : Nat)⟩, (u.1.getD 3 0 : Nat), (u.1.getD 4 0 : Nat), a.1⟩, a.2)
theorem idx280_0 (a b c d e : Value) (w : World) : (Instr.index 143 (.agg #[a, b, c, d, e]) (.int .i64 0)).run Tryz.prog w = .ok a w := by kernel_rfl
theorem idx280_1 (a b c d e : Value) (w : World) : (Instr.index 143 (.agg #[a, b, c, d, e]) (.int .i64 1)).run Tryz.prog w = .ok b w := by kernel_rfl
theorem idx280_2 (a b c d e : Value) (w : World) : (Instr.index 143 (.agg #[a, b, c, d, e]) (.int .i64 2)).run Tryz.prog w = .ok c w := by kernel_rfl
theorem idx280_3 (a b c d e : Value) (w : World) : (Instr.index 143 (.agg #[a, b, c, d, e]) (.int .i64 3)).run Tryz.prog w = .ok d w := by kernel_rfl
theorem idx280_4 (a b c d e : Value) (w : World) : (Instr.index 143 (.agg #[a, b, c, d, e]) (.int .i64 4)).run Tryz.prog w = .ok e w := by kernel_rfl
theorem infoN2 : (Tryz.prog.info? 2).map (fun i => (i.zero, i.size, i.bytes)) = some (some (.int .i64 0), 1, 8) := by kernel_rfl
/-- The box of the choice that is being read. -/
def cBox (k : Int) (xs : List Nat) (v : Value) : Array Value := #[.int .u8 k, .int .i64 (xs.getD 0 0 : Nat), .int .i64 (xs.getD 1 0 : Nat), .int .i64 (xs.getD 2 0 : Nat), .int .i64 (xs.getD 3 0 : Nat), .int .i64 (xs.getD 4 0 : Nat), v]
theorem cBox_push (k : Int) (xs : List Nat) (x : Nat) (v : Value) (h : xs.length < 5) : (cBox k xs v).setIfInBounds (xs.length + 1) (.int .i64 x) = cBox k (xs ++ [x]) v := by
  match xs, h with
  | [], _ => rfl
  | [_], _ => rfl
  | [_, _], _ => rfl
  | [_, _, _], _ => rfl
  | [_, _, _, _], _ => rfl
theorem grown_cells {w W : World} {rb B o : Nat} {v : Value} (h : w.grownBy W (some rb)) (hB : w.heap.size ≤ B) : w.grownBy (W.setCell ⟨B, o, none⟩ v) (some rb) :=
  ⟨h.os, h.tape, h.output, by rw [World.size_setCell]; exact h.size, fun j hj hne => (Below.heap_setCell _ _ _ _ (show j ≠ B by omega)).trans (h.block j hj hne)⟩
theorem grown_belowR {w W W2 : World} {rb : Nat} (h : w.grownBy W (some rb)) (k : Below w.heap.size W W2) (hs : W.heap.size ≤ W2.heap.size) : w.grownBy W2 (some rb) :=
  ⟨k.os.trans h.os, k.tape.trans h.tape, k.output.trans h.output, Nat.le_trans h.size hs, fun j hj hne => (k.block j hj).trans (h.block j hj hne)⟩
theorem grown_rowR {w W : World} {rb B : Nat} {A : Array Value} (h : w.grownBy W (some rb)) (hB : w.heap.size ≤ B) : w.grownBy (W.setRow B A) (some rb) :=
  ⟨h.os, h.tape, h.output, by rw [setRow_size]; exact h.size, fun j hj hne => (setRow_other _ _ _ _ (show j ≠ B by omega)).trans (h.block j hj hne)⟩
theorem info113 : (Tryz.prog.info? 58).map (·.size) = some 7 := by kernel_rfl
theorem room8 {n : Nat} (h : n ≤ 1003) : n ≤ maxLen ∧ n * 8 ≤ 140737488355328 := by unfold maxLen; omega
set_option maxRecDepth 100000 in
set_option maxHeartbeats 4000000 in
theorem readOne159_any (rb : Nat) (s : RS) (w : World) (h : RdS w rb s) :
    Calls Tryz.prog 65 #[.pointer (some ⟨rb, 0, none⟩)] w fun r w' => (∃ v, r = .returned (gA (v, (rOne s).1)) ∧ GArg (fun b => w.heap.size ≤ b) w' (v, (rOne s).1) ∧ ∃ a c, v = .slice a (rOne s).1.l.length c) ∧ w.grownBy w' (some rb) ∧ RdS w' rb (rOne s).2 := by
  obtain ⟨N, HN⟩ : ∃ N, Hid (N = w.heap.size) := ⟨_, Lib.hid rfl⟩
  have HRB := Lib.hid (show rb < w.heap.size from h.lt)
  have HD := Lib.hid h; clear h
  obtain ⟨i0, hi0, hz0, hz1, hz2⟩ := info_parts infoN2
  obtain ⟨hB, hR, hML⟩ := boxed2 w (.cells #[.int .u8 0, .int .i64 0, .int .i64 0, .int .i64 0, .int .i64 0, .int .i64 0, .slice none 0 0] 58) (.cells #[.int .u8 0, .int .i64 0, .int .i64 0, .int .i64 0, .int .i64 0, .int .i64 0, .slice none 0 0] 58)
  have HR0 := Lib.hid hB; have HC0 := Lib.hid hR; have HM1 := Lib.hid hML.1
  clear hB hR hML
  rw [← HN.out] at HR0 HC0 ⊢
  go_enter Tryz.func65, Tryz.ntmps65
  go_upto_region 2 with (fail)
  rw [← HN.out]
  generalize (w.alloc (.cells #[.int .u8 0, .int .i64 0, .int .i64 0, .int .i64 0, .int .i64 0, .int .i64 0, .slice none 0 0] 58)).alloc (.cells #[.int .u8 0, .int .i64 0, .int .i64 0, .int .i64 0, .int .i64 0, .int .i64 0, .slice none 0 0] 58) = w1 at *
  have HD1 := Lib.hid (show RdS w1 rb s from HD.out.more HM1.out)
  go_wp2_with fail
  refine (rdByte_any rb s w1 HD1.out).mono ?_
  rintro e w2 ⟨rfl, hg, hd⟩
  have HG2 := Lib.hid (show w.grownBy w2 (some rb) from grown_any HM1.out hg)
  have HC2 := Lib.hid ((hg.block (N + 1) (blk_lt HC0.out) (fun e => by injection e with e; have := HRB.out; have := HN.out; omega)).trans HC0.out)
  have HR2 := Lib.hid ((hg.block N (blk_lt HR0.out) (fun e => by injection e with e; have := HRB.out; have := HN.out; omega)).trans HR0.out)
  have HD2 := Lib.hid hd
  clear hg hd
  obtain ⟨kd, HKD⟩ : ∃ kd, Hid ((rByte s).1 = kd) := ⟨_, Lib.hid rfl⟩
  obtain ⟨s1, HS1⟩ : ∃ s1, Hid ((rByte s).2 = s1) := ⟨_, Lib.hid rfl⟩
  rw [HS1.out] at HD2
  rw [HKD.out]
  have c0 : w2.cell? ⟨N + 1, 0, none⟩ = some (.int .u8 0) := cell_of_blk HC2.out rfl
  have f0 := thaw HC2.out 0
  have hbc := cell_lt c0
  go_upto_region 3 with (fail)
  have HC3 := Lib.hid (show (w2.setCell ⟨N + 1, 0, none⟩ (.int .u8 kd)).heap[N + 1]? = some (.cells (cBox kd [] (.slice none 0 0)) 58) from setCell_heap HC2.out)
  have HR3 := Lib.hid ((Below.heap_setCell w2 ⟨N + 1, 0, none⟩ (.int .u8 kd) N (by show N ≠ N + 1; omega)).trans HR2.out)
  have HD3 := Lib.hid (show RdS (w2.setCell ⟨N + 1, 0, none⟩ (.int .u8 kd)) rb s1 from HD2.out.keep (fun b hb => Below.heap_setCell _ _ _ _ (show b ≠ N + 1 by have := HRB.out; have := HN.out; omega)))
  have HG3 := Lib.hid (show w.grownBy (w2.setCell ⟨N + 1, 0, none⟩ (.int .u8 kd)) (some rb) from grown_cells HG2.out (by rw [HN.out]; omega))
  clear c0 f0 hbc
  generalize w2.setCell ⟨N + 1, 0, none⟩ (.int .u8 kd) = w3 at *
  go_wp2_with fail
  go_loopw [20] (fun i wr => ∃ m : Nat, m ≤ 5 ∧ i = .int .i64 m ∧ Hid (wr.heap[N + 1]? = some (.cells (cBox kd (rUs 65535 m s1).1 (.slice none 0 0)) 58)) ∧ Hid (RdS wr rb (rUs 65535 m s1).2) ∧ Hid (w.grownBy wr (some rb)) ∧ Hid (∃ z, wr.heap[N]? = some (.cells z 58) ∧ z.size = 7)) (fun i _ => 5 - (intOf i).toNat)
  case atStart => exact ⟨0, by omega, rfl, HC3, HD3, HG3, Lib.hid ⟨_, HR3.out, rfl⟩⟩
  case round =>
    obtain ⟨m, hm, rfl, HC, HDR, HG, HRR⟩ := hrel
    obtain ⟨wo, rfl⟩ : ∃ wo : World, wo = wr := ⟨_, rfl⟩
    by_cases hm5 : m < 5
    · have HL := Lib.hid (rUs_len 65535 m s1)
      obtain ⟨xs, HXS⟩ : ∃ xs, Hid ((rUs 65535 m s1).1 = xs) := ⟨_, Lib.hid rfl⟩
      obtain ⟨sm, HSM⟩ : ∃ sm, Hid ((rUs 65535 m s1).2 = sm) := ⟨_, Lib.hid rfl⟩
      have HNX := Lib.hid (show rUs 65535 (m + 1) s1 = (xs ++ [(rUint 65535 sm).1], (rUint 65535 sm).2) by rw [← HXS.out, ← HSM.out]; rfl)
      rw [HXS.out] at HC HL
      rw [HSM.out] at HDR
      have HCU := Lib.hid (rdUint_any rb sm 65535 wo (by omega) HDR.out)
      have HUL := Lib.hid (rUint_le 65535 sm)
      generalize (rUint 65535 sm).1 = u at *
      generalize (rUint 65535 sm).2 = sn at *
      have hwu : IntKind.i64.wrap (u : Int) = u := by rw [IntKind.wrap_i64]; have := HUL.out; omega
      have hmc : m = 0 ∨ m = 1 ∨ m = 2 ∨ m = 3 ∨ m = 4 := by omega
      rcases hmc with rfl | rfl | rfl | rfl | rfl
      · have hix := fun a b c d e W => idx280_0 a b c d e W
        go_wp2_with fail
        refine HCU.out.mono ?_
        rintro e w5 ⟨rfl, hg, hd⟩
        have HC5 := Lib.hid ((hg.block (N + 1) (blk_lt HC.out) (fun e => by injection e with e; have := HRB.out; have := HN.out; omega)).trans HC.out)
        have HRR5 := Lib.hid (show ∃ z, w5.heap[N]? = some (.cells z 58) ∧ z.size = 7 from by obtain ⟨z, h1, h2⟩ := HRR.out; exact ⟨z, (hg.block N (blk_lt h1) (fun e => by injection e with e; have := HRB.out; have := HN.out; omega)).trans h1, h2⟩)
        have HD5 := Lib.hid hd
        have HG5 := Lib.hid (grown_trans HG.out hg)
        clear hg hd
        have cq : w5.cell? ⟨N + 1, 1, none⟩ = some (.int .i64 (xs.getD 0 0 : Nat)) := cell_of_blk HC5.out rfl
        have fq := thaw HC5.out 1
        have hbq := cell_lt cq
        go_wp2_with fail
        go_roundw
        case rel => exact ⟨1, by omega, by go_num, Lib.hid (by rw [HNX.out]; exact (setCell_heap HC5.out).trans (by have h1 := cBox_push kd xs u (.slice none 0 0) (by rw [HL.out]; omega); rw [HL.out] at h1; rw [h1])), Lib.hid (by rw [HNX.out]; exact HD5.out.keep (fun b hb => Below.heap_setCell _ _ _ _ (show b ≠ N + 1 by have := HRB.out; have := HN.out; omega))), Lib.hid (grown_cells HG5.out (by rw [HN.out]; omega)), Lib.hid (by obtain ⟨z, h1, h2⟩ := HRR5.out; exact ⟨z, (Below.heap_setCell _ _ _ _ (show N ≠ N + 1 by omega)).trans h1, h2⟩)⟩
        case measure => simp [intOf]
      · have hix := fun a b c d e W => idx280_1 a b c d e W
        go_wp2_with fail
        refine HCU.out.mono ?_
        rintro e w5 ⟨rfl, hg, hd⟩
        have HC5 := Lib.hid ((hg.block (N + 1) (blk_lt HC.out) (fun e => by injection e with e; have := HRB.out; have := HN.out; omega)).trans HC.out)
        have HRR5 := Lib.hid (show ∃ z, w5.heap[N]? = some (.cells z 58) ∧ z.size = 7 from by obtain ⟨z, h1, h2⟩ := HRR.out; exact ⟨z, (hg.block N (blk_lt h1) (fun e => by injection e with e; have := HRB.out; have := HN.out; omega)).trans h1, h2⟩)
        have HD5 := Lib.hid hd
        have HG5 := Lib.hid (grown_trans HG.out hg)
        clear hg hd
        have cq : w5.cell? ⟨N + 1, 2, none⟩ = some (.int .i64 (xs.getD 1 0 : Nat)) := cell_of_blk HC5.out rfl
        have fq := thaw HC5.out 2
        have hbq := cell_lt cq
        go_wp2_with fail
        go_roundw
        case rel => exact ⟨2, by omega, by go_num, Lib.hid (by rw [HNX.out]; exact (setCell_heap HC5.out).trans (by have h1 := cBox_push kd xs u (.slice none 0 0) (by rw [HL.out]; omega); rw [HL.out] at h1; rw [h1])), Lib.hid (by rw [HNX.out]; exact HD5.out.keep (fun b hb => Below.heap_setCell _ _ _ _ (show b ≠ N + 1 by have := HRB.out; have := HN.out; omega))), Lib.hid (grown_cells HG5.out (by rw [HN.out]; omega)), Lib.hid (by obtain ⟨z, h1, h2⟩ := HRR5.out; exact ⟨z, (Below.heap_setCell _ _ _ _ (show N ≠ N + 1 by omega)).trans h1, h2⟩)⟩
        case measure => simp [intOf]
      · have hix := fun a b c d e W => idx280_2 a b c d e W
        go_wp2_with fail
        refine HCU.out.mono ?_
        rintro e w5 ⟨rfl, hg, hd⟩
        have HC5 := Lib.hid ((hg.block (N + 1) (blk_lt HC.out) (fun e => by injection e with e; have := HRB.out; have := HN.out; omega)).trans HC.out)
        have HRR5 := Lib.hid (show ∃ z, w5.heap[N]? = some (.cells z 58) ∧ z.size = 7 from by obtain ⟨z, h1, h2⟩ := HRR.out; exact ⟨z, (hg.block N (blk_lt h1) (fun e => by injection e with e; have := HRB.out; have := HN.out; omega)).trans h1, h2⟩)
        have HD5 := Lib.hid hd
        have HG5 := Lib.hid (grown_trans HG.out hg)
        clear hg hd
        have cq : w5.cell? ⟨N + 1, 3, none⟩ = some (.int .i64 (xs.getD 2 0 : Nat)) := cell_of_blk HC5.out rfl
        have fq := thaw HC5.out 3
        have hbq := cell_lt cq
        go_wp2_with fail
        go_roundw
        case rel => exact ⟨3, by omega, by go_num, Lib.hid (by rw [HNX.out]; exact (setCell_heap HC5.out).trans (by have h1 := cBox_push kd xs u (.slice none 0 0) (by rw [HL.out]; omega); rw [HL.out] at h1; rw [h1])), Lib.hid (by rw [HNX.out]; exact HD5.out.keep (fun b hb => Below.heap_setCell _ _ _ _ (show b ≠ N + 1 by have := HRB.out; have := HN.out; omega))), Lib.hid (grown_cells HG5.out (by rw [HN.out]; omega)), Lib.hid (by obtain ⟨z, h1, h2⟩ := HRR5.out; exact ⟨z, (Below.heap_setCell _ _ _ _ (show N ≠ N + 1 by omega)).trans h1, h2⟩)⟩
        case measure => simp [intOf]
      · have hix := fun a b c d e W => idx280_3 a b c d e W
        go_wp2_with fail
        refine HCU.out.mono ?_
        rintro e w5 ⟨rfl, hg, hd⟩
        have HC5 := Lib.hid ((hg.block (N + 1) (blk_lt HC.out) (fun e => by injection e with e; have := HRB.out; have := HN.out; omega)).trans HC.out)
        have HRR5 := Lib.hid (show ∃ z, w5.heap[N]? = some (.cells z 58) ∧ z.size = 7 from by obtain ⟨z, h1, h2⟩ := HRR.out; exact ⟨z, (hg.block N (blk_lt h1) (fun e => by injection e with e; have := HRB.out; have := HN.out; omega)).trans h1, h2⟩)
        have HD5 := Lib.hid hd
        have HG5 := Lib.hid (grown_trans HG.out hg)
        clear hg hd
        have cq : w5.cell? ⟨N + 1, 4, none⟩ = some (.int .i64 (xs.getD 3 0 : Nat)) := cell_of_blk HC5.out rfl
        have fq := thaw HC5.out 4
        have hbq := cell_lt cq
        go_wp2_with fail
        go_roundw
        case rel => exact ⟨4, by omega, by go_num, Lib.hid (by rw [HNX.out]; exact (setCell_heap HC5.out).trans (by have h1 := cBox_push kd xs u (.slice none 0 0) (by rw [HL.out]; omega); rw [HL.out] at h1; rw [h1])), Lib.hid (by rw [HNX.out]; exact HD5.out.keep (fun b hb => Below.heap_setCell _ _ _ _ (show b ≠ N + 1 by have := HRB.out; have := HN.out; omega))), Lib.hid (grown_cells HG5.out (by rw [HN.out]; omega)), Lib.hid (by obtain ⟨z, h1, h2⟩ := HRR5.out; exact ⟨z, (Below.heap_setCell _ _ _ _ (show N ≠ N + 1 by omega)).trans h1, h2⟩)⟩
        case measure => simp [intOf]
      · have hix := fun a b c d e W => idx280_4 a b c d e W
        go_wp2_with fail
        refine HCU.out.mono ?_
        rintro e w5 ⟨rfl, hg, hd⟩
        have HC5 := Lib.hid ((hg.block (N + 1) (blk_lt HC.out) (fun e => by injection e with e; have := HRB.out; have := HN.out; omega)).trans HC.out)
        have HRR5 := Lib.hid (show ∃ z, w5.heap[N]? = some (.cells z 58) ∧ z.size = 7 from by obtain ⟨z, h1, h2⟩ := HRR.out; exact ⟨z, (hg.block N (blk_lt h1) (fun e => by injection e with e; have := HRB.out; have := HN.out; omega)).trans h1, h2⟩)
        have HD5 := Lib.hid hd
        have HG5 := Lib.hid (grown_trans HG.out hg)
        clear hg hd
        have cq : w5.cell? ⟨N + 1, 5, none⟩ = some (.int .i64 (xs.getD 4 0 : Nat)) := cell_of_blk HC5.out rfl
        have fq := thaw HC5.out 5
        have hbq := cell_lt cq
        go_wp2_with fail
        go_roundw
        case rel => exact ⟨5, by omega, by go_num, Lib.hid (by rw [HNX.out]; exact (setCell_heap HC5.out).trans (by have h1 := cBox_push kd xs u (.slice none 0 0) (by rw [HL.out]; omega); rw [HL.out] at h1; rw [h1])), Lib.hid (by rw [HNX.out]; exact HD5.out.keep (fun b hb => Below.heap_setCell _ _ _ _ (show b ≠ N + 1 by have := HRB.out; have := HN.out; omega))), Lib.hid (grown_cells HG5.out (by rw [HN.out]; omega)), Lib.hid (by obtain ⟨z, h1, h2⟩ := HRR5.out; exact ⟨z, (Below.heap_setCell _ _ _ _ (show N ≠ N + 1 by omega)).trans h1, h2⟩)⟩
        case measure => simp [intOf]
    · obtain rfl : m = 5 := by omega
      have HL := Lib.hid (rUs_len 65535 5 s1)
      obtain ⟨xs, HXS⟩ : ∃ xs, Hid ((rUs 65535 5 s1).1 = xs) := ⟨_, Lib.hid rfl⟩
      obtain ⟨sm, HSM⟩ : ∃ sm, Hid ((rUs 65535 5 s1).2 = sm) := ⟨_, Lib.hid rfl⟩
      rw [HXS.out] at HC HL
      rw [HSM.out] at HDR
      have HCU := Lib.hid (rdUint_any rb sm 4 wo (by omega) HDR.out)
      have HUL := Lib.hid (rUint_le 4 sm)
      obtain ⟨cn, HCN⟩ : ∃ cn, Hid ((rUint 4 sm).1 = cn) := ⟨_, Lib.hid rfl⟩
      obtain ⟨s7, HS7⟩ : ∃ s7, Hid ((rUint 4 sm).2 = s7) := ⟨_, Lib.hid rfl⟩
      rw [HCN.out] at HCU HUL
      rw [HS7.out] at HCU
      have hcn := HUL.out
      have hwu : IntKind.i64.wrap (cn : Int) = cn := by rw [IntKind.wrap_i64]; omega
      go_wp2_with fail
      refine HCU.out.mono ?_
      rintro e w5 ⟨rfl, hg, hd⟩
      have HC5 := Lib.hid ((hg.block (N + 1) (blk_lt HC.out) (fun e => by injection e with e; have := HRB.out; have := HN.out; omega)).trans HC.out)
      have HRR5 := Lib.hid (show ∃ z, w5.heap[N]? = some (.cells z 58) ∧ z.size = 7 from by obtain ⟨z, h1, h2⟩ := HRR.out; exact ⟨z, (hg.block N (blk_lt h1) (fun e => by injection e with e; have := HRB.out; have := HN.out; omega)).trans h1, h2⟩)
      have HD5 := Lib.hid hd
      have HG5 := Lib.hid (grown_trans HG.out hg)
      clear hg hd HC HDR HG HRR hm5 hm
      obtain ⟨M, HMM⟩ : ∃ M, Hid (M = w5.heap.size) := ⟨_, Lib.hid rfl⟩
      have HNM := Lib.hid (show N + 1 < M by rw [HMM.out]; exact blk_lt HC5.out)
      go_wp2_with fail
      go_loopw [33] (fun i wr => ∃ (m : Nat) (av : Value), m ≤ cn ∧ i = .int .i64 m ∧ Hid (wr.heap[N + 1]? = some (.cells (cBox kd xs av) 58)) ∧ Hid (wr.ownsRow M 2 1 av m (flatC nC (rInts m s7).1)) ∧ Hid (RdS wr rb (rInts m s7).2) ∧ Hid (w.grownBy wr (some rb)) ∧ Hid (M ≤ wr.heap.size) ∧ Hid (∃ z, wr.heap[N]? = some (.cells z 58) ∧ z.size = 7)) (fun i _ => cn - (intOf i).toNat)
      case atStart => exact ⟨0, .slice none 0 0, Nat.zero_le _, rfl, HC5, Lib.hid (World.ownsRow_nil _ _ _ _), HD5, HG5, Lib.hid (by rw [HMM.out]; exact Nat.le_refl _), HRR5⟩
      case round =>
        clear HC5 HD5 HG5 HRR5
        obtain ⟨m, av, hm, rfl, HC, HO, HDR, HG, HMS, HRR⟩ := hrel
        obtain ⟨wo, rfl⟩ : ∃ wo : World, wo = wr := ⟨_, rfl⟩
        obtain ⟨va, vc, rfl, _⟩ := owns_shape HO.out
        have hcn := HUL.out
        by_cases hmt : m < cn
        · have HMT := Lib.hid hmt
          have HNX := Lib.hid (show rInts (m + 1) s7 = ((rInts m s7).1 ++ [(rInt (rInts m s7).2).1], (rInt (rInts m s7).2).2) from rfl)
          generalize (rInts m s7).1 = ys at *
          generalize (rInts m s7).2 = sm2 at *
          have HCI := Lib.hid (fun W (hW : More wo W) => rdInt_any rb sm2 W (HDR.out.more hW))
          generalize (rInt sm2).1 = g at *
          generalize (rInt sm2).2 = sn at *
          have HLD := Lib.hid (more_drew wo)
          have c6 : wo.cell? ⟨N + 1, 6, none⟩ = some (.slice va m vc) := cell_of_blk HC.out rfl
          have hbc := cell_lt c6
          have HR9 := Lib.hid (room8 (n := m + 1) (by omega))
          go_upto_region 11 with (fail)
          go_region_law (first | (go_simp; go_at_call 67; refine (HCI.out _ HLD.out).mono ?_; rintro e wA ⟨rfl, hgA, hdA⟩; have HGA := Lib.hid (grown_any HLD.out hgA); have HDA := Lib.hid hdA; have HCA := Lib.hid ((HGA.out.block (N + 1) (blk_lt HC.out) (fun e => by injection e with e; have := HRB.out; have := HN.out; omega)).trans HC.out); have dA : wA.cell? ⟨N + 1, 6, none⟩ = some (.slice va m vc) := cell_of_blk HCA.out rfl; have hbA := cell_lt dA; have HOA := Lib.hid (owns_keep HO.out (fun z hz => HGA.out.block z (HO.out.lt z hz).2 (fun e => by injection e with e; have h1 := (HO.out.lt z hz).1; have := HNM.out; have := HRB.out; have := HN.out; omega))); clear hgA hdA) | (refine step_append_lies _ (by rfl) _ _ _ (by rfl) M 2 i0 _ 1 8 Tryz.underlying56 hi0 hz0 hz1 hz2 (by rfl) (by omega) (.slice va m vc) m (flatC nC ys) (by rfl) (owns_keep HOA.out (fun z hz => Below.heap_alloc wA _ _ (HOA.out.lt z hz).2)) ⟨wA.heap.size, 0, none⟩ 1 1 [.int .i64 g] (by rfl) (by rfl) (World.news_of_block (cs := #[.int .i64 g]) (t := 2) (fr := (0, 0)) (alloc_last _ _)) (by simp [Value.oneCell']) (by omega) HR9.out.1 HR9.out.2 (by rw [World.size_alloc]; exact Nat.le_succ_of_le (Nat.le_trans HMS.out HGA.out.size)) (wA.heap.size + 1) (by simp) ?_; intro gg cap8 wB hownB hgrowB hatB _; have HCB := Lib.hid ((hgrowB.block (N + 1) (by rw [World.size_alloc]; exact Nat.lt_succ_of_lt (blk_lt HCA.out)) (fun e => by have := (HOA.out.lt (N + 1) e.symm).1; have := HNM.out; omega)).trans ((Below.heap_alloc wA _ _ (blk_lt HCA.out)).trans HCA.out)); have dB : wB.cell? ⟨N + 1, 6, none⟩ = some (.slice va m vc) := cell_of_blk HCB.out rfl; have fB := thaw HCB.out 6; have hbB := cell_lt dB))
          all_goals
            have HCF := Lib.hid (show (wB.setCell ⟨N + 1, 6, none⟩ (.slice (some ⟨gg, 0, none⟩) (m + 1) cap8)).heap[N + 1]? = some (.cells (cBox kd xs (.slice (some ⟨gg, 0, none⟩) (m + 1) cap8)) 58) from setCell_heap HCB.out)
            have HOF := Lib.hid (show (wB.setCell ⟨N + 1, 6, none⟩ (.slice (some ⟨gg, 0, none⟩) (m + 1) cap8)).ownsRow M 2 1 (.slice (some ⟨gg, 0, none⟩) (m + 1) cap8) (m + 1) (flatC nC (ys ++ [g])) from by
              rw [flatC_push]
              exact owns_keep hownB (fun z hz => Below.heap_setCell _ _ _ _ (show z ≠ N + 1 by have := (hownB.lt z hz).1; have := HNM.out; omega)))
            have HSA := Lib.hid (show w.heap.size ≤ M from by have := HNM.out; have := HN.out; omega)
            have HBB := Lib.hid (show Below w.heap.size wA wB from ((Below.refl w.heap.size wA).alloc (Nat.le_trans HG.out.size HGA.out.size) _).grown hgrowB (by rw [World.size_alloc]; exact Nat.le_succ_of_le (Nat.le_trans HG.out.size HGA.out.size)) (fun z hz => Nat.le_trans HSA.out (HOA.out.lt z hz).1))
            have HGF := Lib.hid (show w.grownBy (wB.setCell ⟨N + 1, 6, none⟩ (.slice (some ⟨gg, 0, none⟩) (m + 1) cap8)) (some rb) from grown_cells (grown_belowR (grown_trans HG.out HGA.out) HBB.out HBB.out.size) (by rw [HN.out]; omega))
            have HDF := Lib.hid (show RdS (wB.setCell ⟨N + 1, 6, none⟩ (.slice (some ⟨gg, 0, none⟩) (m + 1) cap8)) rb sn from HDA.out.keep (fun b hb => (Below.heap_setCell _ _ _ _ (show b ≠ N + 1 by have := HRB.out; have := HN.out; omega)).trans (HBB.out.block b (by have := HRB.out; omega))))
            have HMF := Lib.hid (show M ≤ (wB.setCell ⟨N + 1, 6, none⟩ (.slice (some ⟨gg, 0, none⟩) (m + 1) cap8)).heap.size from by rw [World.size_setCell]; exact Nat.le_trans HMS.out (Nat.le_trans HGA.out.size HBB.out.size))
            have HRF := Lib.hid (show ∃ z, (wB.setCell ⟨N + 1, 6, none⟩ (.slice (some ⟨gg, 0, none⟩) (m + 1) cap8)).heap[N]? = some (.cells z 58) ∧ z.size = 7 from by
              obtain ⟨z, h1, h2⟩ := HRR.out
              have h3 := (HGA.out.block N (blk_lt h1) (fun e => by injection e with e; have := HRB.out; have := HN.out; omega)).trans h1
              exact ⟨z, (Below.heap_setCell _ _ _ _ (show N ≠ N + 1 by omega)).trans ((hgrowB.block N (by rw [World.size_alloc]; exact Nat.lt_succ_of_lt (blk_lt h3)) (fun e => by have := (HOA.out.lt N e.symm).1; have := HNM.out; omega)).trans ((Below.heap_alloc wA _ _ (blk_lt h3)).trans h3)), h2⟩)
            clear hownB hgrowB hatB dB fB hbB c6 hbc dA hbA
            have hmt9 := HMT.out
            go_wp2_with fail
            go_roundw
            case rel => exact ⟨m + 1, _, by have := HMT.out; omega, by go_num, HCF, Lib.hid (by rw [HNX.out]; exact HOF.out), Lib.hid (by rw [HNX.out]; exact HDF.out), HGF, HMF, HRF⟩
            case measure => have := HMT.out; simp [intOf]; omega
        · obtain rfl : m = cn := by omega
          obtain ⟨z, hz1, hz2⟩ := HRR.out
          have HZZ := Lib.hid hz1; clear hz1
          have HONE := Lib.hid (show rOne s = (⟨⟨kd, (xs.getD 0 0 : Nat), (xs.getD 1 0 : Nat), (xs.getD 2 0 : Nat)⟩, (xs.getD 3 0 : Nat), (xs.getD 4 0 : Nat), (rInts m s7).1⟩, (rInts m s7).2) from by
            unfold rOne
            simp only [HKD.out, HS1.out, HXS.out, HSM.out, HCN.out, HS7.out])
          have HLN := Lib.hid (rInts_len m s7)
          go_wp2_with (first | (refine wpList_load_row rfl 58 _ rfl (N + 1) rfl 58 (cBox kd xs (.slice va m vc)) (0, 0) _ HC.out Tryz.underlying58 rfl info113 ?_) | (refine wpList_store_row rfl 58 _ _ rfl N (cBox kd xs (.slice va m vc)) rfl rfl 58 z HZZ.out (by exact info113) (by rw [hz2]; rfl) (by kernel_rfl) ?_))
          (try simp only [Act.put, List.setIfInBounds_toArray, List.set_cons_zero, List.set_cons_succ])
          go_wp2_with fail
          refine bodyPost_ret (v := .agg (cBox kd xs (.slice va m vc))) (results_cell_row Tryz.results65 _ _ N 58 _ (0, 0) _ rfl (setRow_heap wo N _ _ 58 (0, 0) HZZ.out) Tryz.underlying58 rfl info113) rfl ?_
          rw [HONE.out]
          dsimp only
          refine ⟨⟨.slice va m vc, rfl, ⟨?_, owns_nil HO.out⟩, va, vc, by rw [HLN.out]⟩, grown_rowR HG.out (by rw [HN.out]; exact Nat.le_refl _), HDR.out.keep (fun b hb => setRow_other _ _ _ _ (by have := HRB.out; have := HN.out; omega))⟩
          show Row _ _ 1 (rInts m s7).1.length (.slice va m vc) (flatC nC (rInts m s7).1)
          rw [HLN.out]
          exact (Row.of_owns HO.out).mono (fun b hb => by have h1 : M ≤ b := hb; have := HNM.out; show N ≤ b; omega) (fun b off x hb hc => by rw [cell_setRow_other _ _ _ _ (show b ≠ N by have h1 : M ≤ b := hb; have := HNM.out; omega)]; exact hc)
end Go.Proofs.YtemeppfikpafbaaGreatDoor

