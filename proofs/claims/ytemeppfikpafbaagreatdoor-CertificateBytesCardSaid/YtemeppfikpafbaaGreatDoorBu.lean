/- Texts RhoG, RtpG, RtcG, RcoG, laid together. -/
import Derived.Deep.RegionHeldLaw
import Derived.Test.YtemeppfikpafbaaGreatDoorBf
import Derived.Test.YtemeppfikpafbaaGreatDoorBk
import Derived.Test.YtemeppfikpafbaaGreatDoorBt
/- certificate.Read$1 (106), readHold (110). -/
namespace Go.Proofs.YtemeppfikpafbaaGreatDoor
open Go.RowKit
set_option maxRecDepth 100000 in
theorem num106_any (rb bx : Nat) (s : RS) (most : Nat) (w : World) (hm : most ≤ 2147483647) (hb : w.heap[bx]? = some (.cells #[.pointer (some ⟨rb, 0, none⟩)] 81)) (h : RdS w rb s) :
    Calls Tryz.prog 32 #[.int .i64 most, .pointer (some ⟨bx, 0, none⟩)] w fun r w' => r = .returned (.int .i64 (rUint most s).1) ∧ w.grownBy w' (some rb) ∧ RdS w' rb (rUint most s).2 := by
  have HC := Lib.hid (rdUint_any rb s most w (by omega) h)
  have HUL := Lib.hid (rUint_le most s)
  have b0 : w.cell? ⟨bx, 0, none⟩ = some (.pointer (some ⟨rb, 0, none⟩)) := cell_of_blk hb rfl
  have hbb := cell_lt b0
  clear hb h
  have hw : IntKind.u64.wrap (most : Int) = most := by rw [IntKind.wrap_u64]; omega
  have hw2 : IntKind.i64.wrap ((rUint most s).1 : Int) = (rUint most s).1 := by rw [IntKind.wrap_i64]; have := HUL.out; omega
  generalize (rUint most s).1 = u at *
  generalize (rUint most s).2 = s2 at *
  go_enter Tryz.func32, Tryz.ntmps32
  go_wp2_with fail
  refine HC.out.mono ?_
  rintro e w' ⟨rfl, hg, hd⟩
  have HG := Lib.hid hg
  have HD := Lib.hid hd
  clear hg hd b0 hbb
  go_wp2_with fail
  go_ret
  exact ⟨rfl, HG.out, HD.out⟩
/-- An arrival is read. -/
def rAr (s : RS) : Ar × RS :=
  let t := rUint 200 s
  let h := rUint 2147483647 t.2
  let c := rUint 4 h.2
  let a := rInts c.1 c.2
  (⟨(t.1 : Nat), (h.1 : Nat), a.1⟩, a.2)
def rArs : Nat → RS → List Ar × RS
  | 0, s => ([], s)
  | n + 1, s => let r := rArs n s; let q := rAr r.2; (r.1 ++ [q.1], q.2)
/-- A hold is read: its message and arrivals. -/
def rHold (s : RS) : (M3 × List Ar) × RS :=
  let f := rUint 2147483647 s
  let t := rUint 2147483647 f.2
  let n := rUint 2147483647 t.2
  let c := rUint 2 n.2
  let a := rArs c.1 c.2
  ((⟨(f.1 : Nat), (t.1 : Nat), (n.1 : Nat)⟩, a.1), a.2)
/-- The arrivals that were read so far, in blocks from M on. -/
structure LstA (M : Nat) (w : World) (v : Value) (l : List AV) : Prop where
  own : w.ownsRow M 72 3 v l.length (flatC aC l)
  arg : ∀ q ∈ l, Row (fun b => M ≤ b ∧ v.ownBlock ≠ some b) w 1 q.2.l.length q.1 (flatC nC q.2.l) ∧ NilA q.1
theorem LstA.keep {M : Nat} {w w' : World} {v : Value} {l : List AV} (h : LstA M w v l) (hk : ∀ b, M ≤ b → b < w.heap.size → w'.heap[b]? = w.heap[b]?) : LstA M w' v l :=
  ⟨owns_keep h.own (fun z hz => hk z (h.own.lt z hz).1 (h.own.lt z hz).2), fun q hq => ⟨((h.arg q hq).1.lt (by omega)).mono (fun b hb => hb.1) (fun b off x hb hc => by
    rw [← hc]; exact World.cell?_of_block (w := w) (a := ⟨b, off, none⟩) (hk b hb.1.1 hb.2)), (h.arg q hq).2⟩⟩
theorem LstA.push {M : Nat} {w w' : World} {v v' : Value} {l : List AV} (h : LstA M w v l) {p : AV} (hp : Row (fun b => M ≤ b ∧ v.ownBlock ≠ some b) w 1 p.2.l.length p.1 (flatC nC p.2.l) ∧ NilA p.1)
    (hown : w'.ownsRow M 72 3 v' (l.length + 1) (flatC aC l ++ aC p)) (hg : w.grownBy w' v.ownBlock) (hv : ∀ z, v'.ownBlock = some z → v.ownBlock = some z ∨ w.heap.size ≤ z) : LstA M w' v' (l ++ [p]) := by
  have key : ∀ x : AV, (Row (fun b => M ≤ b ∧ v.ownBlock ≠ some b) w 1 x.2.l.length x.1 (flatC nC x.2.l) ∧ NilA x.1) → (Row (fun b => M ≤ b ∧ v'.ownBlock ≠ some b) w' 1 x.2.l.length x.1 (flatC nC x.2.l) ∧ NilA x.1) := fun x hx => ⟨(hx.1.lt (by omega)).mono (fun b hb => ⟨hb.1.1, fun e => by
    rcases hv b e with h1 | h1
    · exact hb.1.2 h1
    · have := hb.2; omega⟩) (fun b off y hb hc => by
    rw [← hc]; exact World.cell?_of_block (w := w) (a := ⟨b, off, none⟩) (hg.block b hb.2 (fun e => hb.1.2 e.symm))), hx.2⟩
  refine ⟨by rw [List.length_append, List.length_singleton, flatC_push]; exact hown, fun x hx => ?_⟩
  rcases List.mem_append.1 hx with h1 | h1
  · exact key x (h.arg x h1)
  · rw [List.mem_singleton] at h1; subst h1; exact key x hp
theorem rArs_len (n : Nat) (s : RS) : (rArs n s).1.length = n := by
  induction n with
  | zero => rfl
  | succ n ih => simp [rArs, ih]
theorem rArs_small (n : Nat) (s : RS) : ∀ a ∈ (rArs n s).1, a.l.length ≤ 4 := by
  induction n with
  | zero => intro a ha; cases ha
  | succ n ih =>
    intro a ha
    rcases List.mem_append.1 ha with h | h
    · exact ih a h
    · rw [List.mem_singleton] at h
      subst h
      show (rInts _ _).1.length ≤ 4
      rw [rInts_len]
      exact rUint_le 4 _
theorem info166s : (Tryz.prog.info? 68).map (·.size) = some 4 := by kernel_rfl
set_option maxRecDepth 100000 in
set_option maxHeartbeats 4000000 in
theorem readHold110_any (rb bx : Nat) (s : RS) (w : World) (hbx : w.heap[bx]? = some (.cells #[.pointer (some ⟨rb, 0, none⟩)] 81)) (hne : bx ≠ rb) (h : RdS w rb s) :
    Calls Tryz.prog 36 #[.pointer (some ⟨rb, 0, none⟩), .func (.func 32) #[] #[.pointer (some ⟨bx, 0, none⟩)]] w fun r w' => (∃ p : HV, r = .returned (hA p) ∧ p.2.m = (rHold s).1.1 ∧ p.2.al.map (·.2) = (rHold s).1.2 ∧ HAt (fun b => w.heap.size ≤ b) w' p) ∧ w.grownBy w' (some rb) ∧ RdS w' rb (rHold s).2 := by
  obtain ⟨N, HN⟩ : ∃ N, Hid (N = w.heap.size) := ⟨_, Lib.hid rfl⟩
  have HRB := Lib.hid (show rb < w.heap.size from h.lt)
  have HD := Lib.hid h; clear h
  have HBX := Lib.hid hbx; clear hbx
  have HNE := Lib.hid hne; clear hne
  have HBW := Lib.hid (show ∀ W, w.grownBy W (some rb) → W.heap[bx]? = some (.cells #[.pointer (some ⟨rb, 0, none⟩)] 81) from fun W hW => (hW.block bx (blk_lt HBX.out) (fun e => HNE.out (by injection e))).trans HBX.out)
  obtain ⟨i0, hi0, hz0, hz1, hz2⟩ := info_parts infoN2
  obtain ⟨i1, hi1, hy0, hy1, hy2⟩ := info_parts infoA
  obtain ⟨hB, hR, hML⟩ := boxed2 w (.cells #[.int .i64 0, .int .i64 0, .int .i64 0, .slice none 0 0] 68) (.cells #[.int .i64 0, .int .i64 0, .int .i64 0, .slice none 0 0] 68)
  have HR0 := Lib.hid hB; have HC0 := Lib.hid hR; have HM1 := Lib.hid hML.1
  clear hB hR hML
  rw [← HN.out] at HR0 HC0 ⊢
  go_enter Tryz.func36, Tryz.ntmps36
  go_upto_region 2 with (fail)
  rw [← HN.out]
  generalize (w.alloc (.cells #[.int .i64 0, .int .i64 0, .int .i64 0, .slice none 0 0] 68)).alloc (.cells #[.int .i64 0, .int .i64 0, .int .i64 0, .slice none 0 0] 68) = w1 at *
  have HG1 := Lib.hid (more_grown HM1.out rb)
  have HD1 := Lib.hid (show RdS w1 rb s from HD.out.more HM1.out)
  have HCU := Lib.hid (num106_any rb bx s 2147483647 w1 (by omega) (HBW.out _ HG1.out) HD1.out)
  have HUL1 := Lib.hid (rUint_le 2147483647 s)
  obtain ⟨u1, HU1⟩ : ∃ ux, Hid ((rUint 2147483647 s).1 = ux) := ⟨_, Lib.hid rfl⟩
  obtain ⟨s1, HS1⟩ : ∃ sx, Hid ((rUint 2147483647 s).2 = sx) := ⟨_, Lib.hid rfl⟩
  rw [HU1.out] at HCU HUL1
  rw [HS1.out] at HCU
  go_wp2_with fail
  refine HCU.out.mono ?_
  rintro e w2 ⟨rfl, hg, hd⟩
  have HG2 := Lib.hid (grown_trans HG1.out hg)
  have HD2 := Lib.hid hd
  have HC2 := Lib.hid ((hg.block _ (blk_lt HC0.out) (fun e => by injection e with e; have := HRB.out; have := HN.out; omega)).trans HC0.out)
  have HR2 := Lib.hid ((hg.block _ (blk_lt HR0.out) (fun e => by injection e with e; have := HRB.out; have := HN.out; omega)).trans HR0.out)
  clear hg hd HCU
  have HCU := Lib.hid (num106_any rb bx s1 2147483647 w2 (by omega) (HBW.out _ HG2.out) HD2.out)
  have HUL2 := Lib.hid (rUint_le 2147483647 s1)
  obtain ⟨u2, HU2⟩ : ∃ ux, Hid ((rUint 2147483647 s1).1 = ux) := ⟨_, Lib.hid rfl⟩
  obtain ⟨s2, HS2⟩ : ∃ sx, Hid ((rUint 2147483647 s1).2 = sx) := ⟨_, Lib.hid rfl⟩
  rw [HU2.out] at HCU HUL2
  rw [HS2.out] at HCU
  go_wp2_with fail
  refine HCU.out.mono ?_
  rintro e w3 ⟨rfl, hg, hd⟩
  have HG3 := Lib.hid (grown_trans HG2.out hg)
  have HD3 := Lib.hid hd
  have HC3 := Lib.hid ((hg.block _ (blk_lt HC2.out) (fun e => by injection e with e; have := HRB.out; have := HN.out; omega)).trans HC2.out)
  have HR3 := Lib.hid ((hg.block _ (blk_lt HR2.out) (fun e => by injection e with e; have := HRB.out; have := HN.out; omega)).trans HR2.out)
  clear hg hd HCU
  have HCU := Lib.hid (num106_any rb bx s2 2147483647 w3 (by omega) (HBW.out _ HG3.out) HD3.out)
  have HUL3 := Lib.hid (rUint_le 2147483647 s2)
  obtain ⟨u3, HU3⟩ : ∃ ux, Hid ((rUint 2147483647 s2).1 = ux) := ⟨_, Lib.hid rfl⟩
  obtain ⟨s3, HS3⟩ : ∃ sx, Hid ((rUint 2147483647 s2).2 = sx) := ⟨_, Lib.hid rfl⟩
  rw [HU3.out] at HCU HUL3
  rw [HS3.out] at HCU
  go_wp2_with fail
  refine HCU.out.mono ?_
  rintro e w4 ⟨rfl, hg, hd⟩
  have HG4 := Lib.hid (grown_trans HG3.out hg)
  have HD4 := Lib.hid hd
  have HC4 := Lib.hid ((hg.block _ (blk_lt HC3.out) (fun e => by injection e with e; have := HRB.out; have := HN.out; omega)).trans HC3.out)
  have HR4 := Lib.hid ((hg.block _ (blk_lt HR3.out) (fun e => by injection e with e; have := HRB.out; have := HN.out; omega)).trans HR3.out)
  clear hg hd HCU
  have c0 : w4.cell? ⟨N + 1, 0, none⟩ = some (.int .i64 0) := cell_of_blk HC4.out rfl
  have c1 : w4.cell? ⟨N + 1, 1, none⟩ = some (.int .i64 0) := cell_of_blk HC4.out rfl
  have c2 : w4.cell? ⟨N + 1, 2, none⟩ = some (.int .i64 0) := cell_of_blk HC4.out rfl
  have f0 := thaw HC4.out 0
  have f1 := thaw HC4.out 1
  have f2 := thaw HC4.out 2
  have hbc := cell_lt c0
  go_upto_region 3 with (fail)
  clear c0 c1 c2 f0 f1 f2 hbc
  have HC5 := Lib.hid (show (((w4.setCell ⟨N + 1, 0, none⟩ (.int .i64 u1)).setCell ⟨N + 1, 1, none⟩ (.int .i64 u2)).setCell ⟨N + 1, 2, none⟩ (.int .i64 u3)).heap[N + 1]? = some (.cells #[.int .i64 u1, .int .i64 u2, .int .i64 u3, .slice none 0 0] 68) from setCell_heap (setCell_heap (setCell_heap HC4.out)))
  have HK5 := Lib.hid (show ∀ b, b ≠ N + 1 → (((w4.setCell ⟨N + 1, 0, none⟩ (.int .i64 u1)).setCell ⟨N + 1, 1, none⟩ (.int .i64 u2)).setCell ⟨N + 1, 2, none⟩ (.int .i64 u3)).heap[b]? = w4.heap[b]? from fun b hb => (Below.heap_setCell _ _ _ _ hb).trans ((Below.heap_setCell _ _ _ _ hb).trans (Below.heap_setCell _ _ _ _ hb)))
  have HG5 := Lib.hid (show w.grownBy (((w4.setCell ⟨N + 1, 0, none⟩ (.int .i64 u1)).setCell ⟨N + 1, 1, none⟩ (.int .i64 u2)).setCell ⟨N + 1, 2, none⟩ (.int .i64 u3)) (some rb) from grown_cells (grown_cells (grown_cells HG4.out (by rw [HN.out]; omega)) (by rw [HN.out]; omega)) (by rw [HN.out]; omega))
  generalize ((w4.setCell ⟨N + 1, 0, none⟩ (.int .i64 u1)).setCell ⟨N + 1, 1, none⟩ (.int .i64 u2)).setCell ⟨N + 1, 2, none⟩ (.int .i64 u3) = w5 at *
  have HR5 := Lib.hid ((HK5.out N (by omega)).trans HR4.out)
  have HD5 := Lib.hid (show RdS w5 rb s3 from HD4.out.keep (fun b hb => HK5.out b (by have := HRB.out; have := HN.out; omega)))
  clear HK5
  have HCU := Lib.hid (num106_any rb bx s3 2 w5 (by omega) (HBW.out _ HG5.out) HD5.out)
  have HUL4 := Lib.hid (rUint_le 2 s3)
  obtain ⟨u4, HU4⟩ : ∃ ux, Hid ((rUint 2 s3).1 = ux) := ⟨_, Lib.hid rfl⟩
  obtain ⟨s4, HS4⟩ : ∃ sx, Hid ((rUint 2 s3).2 = sx) := ⟨_, Lib.hid rfl⟩
  rw [HU4.out] at HCU HUL4
  rw [HS4.out] at HCU
  go_wp2_with fail
  refine HCU.out.mono ?_
  rintro e w6 ⟨rfl, hg, hd⟩
  have HG6 := Lib.hid (grown_trans HG5.out hg)
  have HD6 := Lib.hid hd
  have HC6 := Lib.hid ((hg.block _ (blk_lt HC5.out) (fun e => by injection e with e; have := HRB.out; have := HN.out; omega)).trans HC5.out)
  have HR6 := Lib.hid ((hg.block _ (blk_lt HR5.out) (fun e => by injection e with e; have := HRB.out; have := HN.out; omega)).trans HR5.out)
  clear hg hd HCU
  obtain ⟨M, HMM⟩ : ∃ M, Hid (M = w6.heap.size) := ⟨_, Lib.hid rfl⟩
  have HNM := Lib.hid (show N + 1 < M by rw [HMM.out]; exact blk_lt HC6.out)
  have hu4 := HUL4.out
  go_wp2_with fail
  go_loopw [21] (fun i wr => ∃ (m : Nat) (o : List AV) (v : Value), m ≤ u4 ∧ i = .int .i64 m ∧ Hid (o.map (·.2) = (rArs m s4).1) ∧ Hid (wr.heap[N + 1]? = some (.cells #[.int .i64 u1, .int .i64 u2, .int .i64 u3, v] 68)) ∧ Hid (LstA M wr v o) ∧ Hid (RdS wr rb (rArs m s4).2) ∧ Hid (w.grownBy wr (some rb)) ∧ Hid (M ≤ wr.heap.size) ∧ Hid (∃ z, wr.heap[N]? = some (.cells z 68) ∧ z.size = 4)) (fun i _ => u4 - (intOf i).toNat)
  case atStart => exact ⟨0, [], .slice none 0 0, Nat.zero_le _, rfl, Lib.hid rfl, HC6, Lib.hid ⟨World.ownsRow_nil _ _ _ _, fun q hq => (by cases hq)⟩, HD6, HG6, Lib.hid (by rw [HMM.out]; exact Nat.le_refl _), Lib.hid ⟨_, HR6.out, rfl⟩⟩
  case round =>
    clear HC6 HD6 HG6 HR6
    obtain ⟨m, o, v, hm, rfl, HOM, HC6, HLA, HD6, HG6, HMS, HRR⟩ := hrel
    obtain ⟨w6, rfl⟩ : ∃ wz : World, wz = wr := ⟨_, rfl⟩
    obtain ⟨oa, oc, rfl, _⟩ := owns_shape HLA.out.own
    have hu4 := HUL4.out
    have HOL := Lib.hid (show o.length = m by have h1 := congrArg List.length HOM.out; rw [List.length_map, rArs_len] at h1; exact h1)
    by_cases hmt : m < u4
    · have HMT := Lib.hid hmt
      obtain ⟨s5, HS5⟩ : ∃ s5, Hid ((rArs m s4).2 = s5) := ⟨_, Lib.hid rfl⟩
      rw [HS5.out] at HD6
      have HCU := Lib.hid (num106_any rb bx s5 200 w6 (by omega) (HBW.out _ HG6.out) HD6.out)
      have HUL6 := Lib.hid (rUint_le 200 s5)
      obtain ⟨u6, HU6⟩ : ∃ ux, Hid ((rUint 200 s5).1 = ux) := ⟨_, Lib.hid rfl⟩
      obtain ⟨s6, HS6⟩ : ∃ sx, Hid ((rUint 200 s5).2 = sx) := ⟨_, Lib.hid rfl⟩
      rw [HU6.out] at HCU HUL6
      rw [HS6.out] at HCU
      go_wp2_with fail
      refine HCU.out.mono ?_
      rintro e w7 ⟨rfl, hg, hd⟩
      have HG7 := Lib.hid (grown_trans HG6.out hg)
      have HD7 := Lib.hid hd
      have HLA7 := Lib.hid (HLA.out.keep (fun b hb hl => hg.block b hl (fun e => by injection e with e; have := HRB.out; have := HN.out; have := HNM.out; omega)))
      have HRR7 := Lib.hid (show ∃ z, w7.heap[N]? = some (.cells z 68) ∧ z.size = 4 from by obtain ⟨z, h1, h2⟩ := HRR.out; exact ⟨z, (hg.block N (blk_lt h1) (fun e => by injection e with e; have := HRB.out; have := HN.out; omega)).trans h1, h2⟩)
      have HMS7 := Lib.hid (Nat.le_trans HMS.out hg.size)
      have HC7 := Lib.hid ((hg.block _ (blk_lt HC6.out) (fun e => by injection e with e; have := HRB.out; have := HN.out; omega)).trans HC6.out)
      clear hg hd HCU
      have HCU := Lib.hid (num106_any rb bx s6 2147483647 w7 (by omega) (HBW.out _ HG7.out) HD7.out)
      have HUL7 := Lib.hid (rUint_le 2147483647 s6)
      obtain ⟨u7, HU7⟩ : ∃ ux, Hid ((rUint 2147483647 s6).1 = ux) := ⟨_, Lib.hid rfl⟩
      obtain ⟨s7, HS7⟩ : ∃ sx, Hid ((rUint 2147483647 s6).2 = sx) := ⟨_, Lib.hid rfl⟩
      rw [HU7.out] at HCU HUL7
      rw [HS7.out] at HCU
      go_wp2_with fail
      refine HCU.out.mono ?_
      rintro e w8 ⟨rfl, hg, hd⟩
      have HG8 := Lib.hid (grown_trans HG7.out hg)
      have HD8 := Lib.hid hd
      have HLA8 := Lib.hid (HLA7.out.keep (fun b hb hl => hg.block b hl (fun e => by injection e with e; have := HRB.out; have := HN.out; have := HNM.out; omega)))
      have HRR8 := Lib.hid (show ∃ z, w8.heap[N]? = some (.cells z 68) ∧ z.size = 4 from by obtain ⟨z, h1, h2⟩ := HRR7.out; exact ⟨z, (hg.block N (blk_lt h1) (fun e => by injection e with e; have := HRB.out; have := HN.out; omega)).trans h1, h2⟩)
      have HMS8 := Lib.hid (Nat.le_trans HMS7.out hg.size)
      have HC8 := Lib.hid ((hg.block _ (blk_lt HC7.out) (fun e => by injection e with e; have := HRB.out; have := HN.out; omega)).trans HC7.out)
      clear hg hd HCU
      go_upto_region 6 with (fail)
      have HAB := Lib.hid (alloc_last w8 (.cells #[.int .i64 u6, .int .i64 u7, .slice none 0 0] 72))
      have HMA := Lib.hid (more_alloc w8 (.cells #[.int .i64 u6, .int .i64 u7, .slice none 0 0] 72))
      generalize w8.alloc (.cells #[.int .i64 u6, .int .i64 u7, .slice none 0 0] 72) = w9 at *
      obtain ⟨AB, HAE⟩ : ∃ AB, Hid (AB = w8.heap.size) := ⟨_, Lib.hid rfl⟩
      rw [← HAE.out] at HAB ⊢
      have HG9 := Lib.hid (grown_trans HG8.out (more_grown HMA.out rb))
      have HD9 := Lib.hid (show RdS w9 rb s7 from HD8.out.more HMA.out)
      have HLA9 := Lib.hid (HLA8.out.keep (fun b _ hl => HMA.out.block hl))
      have HRR9 := Lib.hid (show ∃ z, w9.heap[N]? = some (.cells z 68) ∧ z.size = 4 from by obtain ⟨z, h1, h2⟩ := HRR8.out; exact ⟨z, (HMA.out.block (blk_lt h1)).trans h1, h2⟩)
      have HC9 := Lib.hid ((HMA.out.block (blk_lt HC8.out)).trans HC8.out)
      have HMAB := Lib.hid (show M ≤ AB by rw [HAE.out]; exact HMS8.out)
      have HOB := Lib.hid (show ∀ z, (Value.slice oa o.length oc).ownBlock = some z → z < AB from fun z hz => by rw [HAE.out]; exact (HLA8.out.own.lt z hz).2)
      have HCU := Lib.hid (num106_any rb bx s7 4 w9 (by omega) (HBW.out _ HG9.out) HD9.out)
      have HUL8 := Lib.hid (rUint_le 4 s7)
      obtain ⟨u8, HU8⟩ : ∃ ux, Hid ((rUint 4 s7).1 = ux) := ⟨_, Lib.hid rfl⟩
      obtain ⟨s8, HS8⟩ : ∃ sx, Hid ((rUint 4 s7).2 = sx) := ⟨_, Lib.hid rfl⟩
      rw [HU8.out] at HCU HUL8
      rw [HS8.out] at HCU
      go_wp2_with fail
      refine HCU.out.mono ?_
      rintro e w10 ⟨rfl, hg, hd⟩
      have HG10 := Lib.hid (grown_trans HG9.out hg)
      have HD10 := Lib.hid hd
      have HG910 := Lib.hid hg
      have HLA10 := Lib.hid (HLA9.out.keep (fun b hb hl => hg.block b hl (fun e => by injection e with e; have := HRB.out; have := HN.out; have := HNM.out; omega)))
      have HRR10 := Lib.hid (show ∃ z, w10.heap[N]? = some (.cells z 68) ∧ z.size = 4 from by obtain ⟨z, h1, h2⟩ := HRR9.out; exact ⟨z, (hg.block N (blk_lt h1) (fun e => by injection e with e; have := HRB.out; have := HN.out; omega)).trans h1, h2⟩)
      have HAB10 := Lib.hid ((hg.block AB (blk_lt HAB.out) (fun e => by injection e with e; have := HRB.out; have := HN.out; have := HNM.out; have := HMAB.out; omega)).trans HAB.out)
      have HC10 := Lib.hid ((hg.block _ (blk_lt HC9.out) (fun e => by injection e with e; have := HRB.out; have := HN.out; omega)).trans HC9.out)
      clear hg hd HCU
      have hu8 := HUL8.out
      go_wp2_with fail
      go_loopw [30] (fun i wr => ∃ (t : Nat) (av : Value), t ≤ u8 ∧ i = .int .i64 t ∧ Hid (wr.heap[AB]? = some (.cells #[.int .i64 u6, .int .i64 u7, av] 72)) ∧ Hid (wr.ownsRow (AB + 1) 2 1 av t (flatC nC (rInts t s8).1)) ∧ Hid (RdS wr rb (rInts t s8).2) ∧ Hid (w.grownBy wr (some rb)) ∧ Hid (∀ b, b < AB → b ≠ rb → wr.heap[b]? = w10.heap[b]?) ∧ Hid (AB + 1 ≤ wr.heap.size)) (fun i _ => u8 - (intOf i).toNat)
      case atStart => exact ⟨0, .slice none 0 0, Nat.zero_le _, rfl, HAB10, Lib.hid (World.ownsRow_nil _ _ _ _), HD10, HG10, Lib.hid (fun _ _ _ => rfl), Lib.hid (blk_lt HAB10.out)⟩
      case round =>
        obtain ⟨t, av, ht, rfl, HC, HO, HDR, HG, HKP, HMS2⟩ := hrel
        obtain ⟨wo, rfl⟩ : ∃ wo : World, wo = wr := ⟨_, rfl⟩
        obtain ⟨va, vc, rfl, _⟩ := owns_shape HO.out
        have hu8 := HUL8.out
        by_cases htt : t < u8
        · have HTT := Lib.hid htt
          have HNX := Lib.hid (show rInts (t + 1) s8 = ((rInts t s8).1 ++ [(rInt (rInts t s8).2).1], (rInt (rInts t s8).2).2) from rfl)
          generalize (rInts t s8).1 = ys at *
          generalize (rInts t s8).2 = sm2 at *
          have HCI := Lib.hid (fun W (hW : More wo W) => rdInt_any rb sm2 W (HDR.out.more hW))
          generalize (rInt sm2).1 = g at *
          generalize (rInt sm2).2 = sn at *
          have HLD := Lib.hid (more_drew wo)
          have c6 : wo.cell? ⟨AB, 2, none⟩ = some (.slice va t vc) := cell_of_blk HC.out rfl
          have hbc := cell_lt c6
          have HR9 := Lib.hid (room8 (n := t + 1) (by omega))
          go_upto_region 8 with (fail)
          go_region_law (first | (go_simp; go_at_call 67; refine (HCI.out _ HLD.out).mono ?_; rintro e wA ⟨rfl, hgA, hdA⟩; have HGA := Lib.hid (grown_any HLD.out hgA); have HDA := Lib.hid hdA; have HCA := Lib.hid ((HGA.out.block AB (blk_lt HC.out) (fun e => by injection e with e; have := HRB.out; have := HN.out; have := HNM.out; have := HMAB.out; omega)).trans HC.out); have dA : wA.cell? ⟨AB, 2, none⟩ = some (.slice va t vc) := cell_of_blk HCA.out rfl; have hbA := cell_lt dA; have HOA := Lib.hid (owns_keep HO.out (fun z hz => HGA.out.block z (HO.out.lt z hz).2 (fun e => by injection e with e; have h1 := (HO.out.lt z hz).1; have := HRB.out; have := HN.out; have := HNM.out; have := HMAB.out; omega))); clear hgA hdA) | (refine step_append_lies _ (by rfl) _ _ _ (by rfl) (AB + 1) 2 i0 _ 1 8 Tryz.underlying56 hi0 hz0 hz1 hz2 (by rfl) (by omega) (.slice va t vc) t (flatC nC ys) (by rfl) (owns_keep HOA.out (fun z hz => Below.heap_alloc wA _ _ (HOA.out.lt z hz).2)) ⟨wA.heap.size, 0, none⟩ 1 1 [.int .i64 g] (by rfl) (by rfl) (World.news_of_block (cs := #[.int .i64 g]) (t := 2) (fr := (0, 0)) (alloc_last _ _)) (by simp [Value.oneCell']) (by omega) HR9.out.1 HR9.out.2 (by rw [World.size_alloc]; exact Nat.le_succ_of_le (Nat.le_trans HMS2.out HGA.out.size)) (wA.heap.size + 1) (by simp) ?_; intro gg cap8 wB hownB hgrowB hatB _; have HCB := Lib.hid ((hgrowB.block AB (by rw [World.size_alloc]; exact Nat.lt_succ_of_lt (blk_lt HCA.out)) (fun e => by have := (HOA.out.lt AB e.symm).1; omega)).trans ((Below.heap_alloc wA _ _ (blk_lt HCA.out)).trans HCA.out)); have dB : wB.cell? ⟨AB, 2, none⟩ = some (.slice va t vc) := cell_of_blk HCB.out rfl; have fB := thaw HCB.out 2; have hbB := cell_lt dB))
          all_goals
            have HCF := Lib.hid (show (wB.setCell ⟨AB, 2, none⟩ (.slice (some ⟨gg, 0, none⟩) (t + 1) cap8)).heap[AB]? = some (.cells #[.int .i64 u6, .int .i64 u7, .slice (some ⟨gg, 0, none⟩) (t + 1) cap8] 72) from setCell_heap HCB.out)
            have HOF := Lib.hid (show (wB.setCell ⟨AB, 2, none⟩ (.slice (some ⟨gg, 0, none⟩) (t + 1) cap8)).ownsRow (AB + 1) 2 1 (.slice (some ⟨gg, 0, none⟩) (t + 1) cap8) (t + 1) (flatC nC (ys ++ [g])) from by
              rw [flatC_push]
              exact owns_keep hownB (fun z hz => Below.heap_setCell _ _ _ _ (show z ≠ AB by have := (hownB.lt z hz).1; omega)))
            have HBB := Lib.hid (show Below AB wA wB from ((Below.refl AB wA).alloc (by have := blk_lt HCA.out; omega) _).grown hgrowB (by rw [World.size_alloc]; have := blk_lt HCA.out; omega) (fun z hz => by have := (HOA.out.lt z hz).1; omega))
            have HWA := Lib.hid (show w.heap.size ≤ AB by have := HRB.out; have := HN.out; have := HNM.out; have := HMAB.out; omega)
            have HGF := Lib.hid (show w.grownBy (wB.setCell ⟨AB, 2, none⟩ (.slice (some ⟨gg, 0, none⟩) (t + 1) cap8)) (some rb) from grown_cells (grown_belowR (grown_trans HG.out HGA.out) (HBB.out.mono HWA.out) HBB.out.size) HWA.out)
            have HDF := Lib.hid (show RdS (wB.setCell ⟨AB, 2, none⟩ (.slice (some ⟨gg, 0, none⟩) (t + 1) cap8)) rb sn from HDA.out.keep (fun b hb => (Below.heap_setCell _ _ _ _ (show b ≠ AB by have := HRB.out; have := HWA.out; omega)).trans (HBB.out.block b (by have := HRB.out; have := HWA.out; omega))))
            have HKF := Lib.hid (show ∀ b, b < AB → b ≠ rb → (wB.setCell ⟨AB, 2, none⟩ (.slice (some ⟨gg, 0, none⟩) (t + 1) cap8)).heap[b]? = w10.heap[b]? from fun b hb hr => (Below.heap_setCell _ _ _ _ (show b ≠ AB by omega)).trans ((HBB.out.block b hb).trans ((HGA.out.block b (by have := blk_lt HC.out; omega) (fun e => hr (by injection e))).trans (HKP.out b hb hr))))
            have HMF := Lib.hid (show AB + 1 ≤ (wB.setCell ⟨AB, 2, none⟩ (.slice (some ⟨gg, 0, none⟩) (t + 1) cap8)).heap.size from by rw [World.size_setCell]; exact Nat.le_trans HMS2.out (Nat.le_trans HGA.out.size HBB.out.size))
            clear hownB hgrowB hatB dB fB hbB c6 hbc dA hbA
            have htt9 := HTT.out
            go_wp2_with fail
            go_roundw
            case rel => exact ⟨t + 1, _, by have := HTT.out; omega, by go_num, HCF, Lib.hid (by rw [HNX.out]; exact HOF.out), Lib.hid (by rw [HNX.out]; exact HDF.out), HGF, HKF, HMF⟩
            case measure => have := HTT.out; simp [intOf]; omega
        · obtain rfl : t = u8 := by omega
          clear htt ht
          have HNX := Lib.hid (show rArs (m + 1) s4 = ((rArs m s4).1 ++ [⟨(u6 : Nat), (u7 : Nat), (rInts t s8).1⟩], (rInts t s8).2) from by
              show ((rArs m s4).1 ++ [(rAr (rArs m s4).2).1], (rAr (rArs m s4).2).2) = _
              rw [HS5.out]
              unfold rAr
              simp only [HU6.out, HS6.out, HU7.out, HS7.out, HU8.out, HS8.out])
          have HLN := Lib.hid (rInts_len t s8)
          generalize (rInts t s8).1 = ys at *
          generalize (rInts t s8).2 = sn at *
          have HLAo := Lib.hid (HLA8.out.keep (w' := wo) (fun b hb hl => (HKP.out b (by rw [HAE.out]; exact hl) (by have := HRB.out; have := HN.out; have := HNM.out; have := HMAB.out; omega)).trans ((HG910.out.block b (by have h1 := HMA.out.size; omega) (fun e => by injection e with e; have := HRB.out; have := HN.out; have := HNM.out; have := HMAB.out; omega)).trans (HMA.out.block hl))))
          have HCo := Lib.hid ((HKP.out (N + 1) (by have := HRB.out; have := HN.out; have := HNM.out; have := HMAB.out; omega) (by have := HRB.out; have := HN.out; have := HNM.out; have := HMAB.out; omega)).trans HC10.out)
          have HRRo := Lib.hid (show ∃ z, wo.heap[N]? = some (.cells z 68) ∧ z.size = 4 from by obtain ⟨z, h1, h2⟩ := HRR10.out; exact ⟨z, (HKP.out N (by have := HRB.out; have := HN.out; have := HNM.out; have := HMAB.out; omega) (by have := HRB.out; have := HN.out; have := HNM.out; have := HMAB.out; omega)).trans h1, h2⟩)
          have HP := Lib.hid (show Row (fun b => M ≤ b ∧ (Value.slice oa o.length oc).ownBlock ≠ some b) wo 1 ys.length (.slice va t vc) (flatC nC ys) ∧ NilA (.slice va t vc) from ⟨by
              rw [HLN.out]
              exact (Row.of_owns HO.out).mono (fun b hb => by have h1 : AB + 1 ≤ b := hb; exact ⟨by have := HRB.out; have := HN.out; have := HNM.out; have := HMAB.out; omega, fun e => by have h2 := HOB.out b e; omega⟩) (fun _ _ _ _ h => h), owns_nil HO.out⟩)
          obtain ⟨on, HON⟩ : ∃ on, Hid (o.length = on) := ⟨_, Lib.hid rfl⟩
          have hon := HON.out
          have hol := HOL.out
          have c3 : wo.cell? ⟨N + 1, 3, none⟩ = some (.slice oa on oc) := cell_of_blk HCo.out (by rw [← HON.out]; rfl)
          have hbc := cell_lt c3
          have g0 : wo.cell? ⟨AB, 0, none⟩ = some (.int .i64 u6) := cell_of_blk HC.out rfl
          have g1 : wo.cell? ⟨AB, 1, none⟩ = some (.int .i64 u7) := cell_of_blk HC.out rfl
          have g2 : wo.cell? ⟨AB, 2, none⟩ = some (.slice va t vc) := cell_of_blk HC.out rfl
          have hbg := cell_lt g0
          have HR9 := Lib.hid (room40 (n := on + 1) (by omega))
          clear hon hol
          have HMB := Lib.hid (more_alloc wo (.cells #[.int .i64 u6, .int .i64 u7, .slice va t vc] 72))
          have HLB := Lib.hid (HLAo.out.keep (fun b _ hl => HMB.out.block hl))
          have HCB0 := Lib.hid ((HMB.out.block (blk_lt HCo.out)).trans HCo.out)
          have HSB := Lib.hid (show M ≤ wo.heap.size by have h1 := HMS2.out; have := HRB.out; have := HN.out; have := HNM.out; have := HMAB.out; omega)
          go_wp2_with (at_builtin; refine wpList_append_lies _ rfl _ _ 66 rfl M 72 i1 _ 3 40 Tryz.underlying66 hi1 hy0 hy1 hy2 rfl (by omega) (.slice oa on oc) on (flatC aC o) rfl (by have h1 := HLB.out.own; rw [HON.out] at h1; exact h1) ⟨wo.heap.size, 0, none⟩ 1 1 [.int .i64 u6, .int .i64 u7, .slice va t vc] rfl rfl (World.news_of_block (cs := #[.int .i64 u6, .int .i64 u7, .slice va t vc]) (t := 72) (fr := (0, 0)) (alloc_last _ _)) (by simp [Value.oneCell']) (by omega) HR9.out.1 HR9.out.2 (by rw [World.size_alloc]; exact Nat.le_succ_of_le HSB.out) (wo.heap.size + 1) (by simp) ?_; intro gg cap8 wB hown8 hgrow8 hat8 _; have HCC := Lib.hid ((hgrow8.block (N + 1) (by rw [World.size_alloc]; have := blk_lt HCo.out; omega) (fun e => by have h1 := (HLB.out.own.lt (N + 1) (by rw [HON.out]; exact e.symm)).1; have := HNM.out; omega)).trans HCB0.out); have dB : wB.cell? ⟨N + 1, 3, none⟩ = some (.slice oa on oc) := cell_of_blk HCC.out (by rw [← HON.out]; rfl); have fB := thaw HCC.out 3; have hbB := cell_lt dB)
          have HPU := Lib.hid (HLB.out.push (p := (.slice va t vc, ⟨(u6 : Nat), (u7 : Nat), ys⟩)) (w' := wB) (v' := .slice (some ⟨gg, 0, none⟩) (on + 1) cap8) ⟨HP.out.1.mono (fun _ h => h) (fun b off x _ hc => HMB.out.cell hc), HP.out.2⟩ (by rw [HON.out]; exact hown8) (by rw [HON.out]; exact hgrow8) (fun z hz => by
              have hzg : gg = z := by injection hz
              subst hzg
              rw [HON.out]
              rcases hat8 with h | h
              · exact Or.inl h
              · exact Or.inr (by rw [h, World.size_alloc]; exact Nat.le_refl _)))
          have HGB := Lib.hid (show ∀ b, b < M → wB.heap[b]? = wo.heap[b]? from fun b hb => (hgrow8.block b (by rw [World.size_alloc]; have := HSB.out; omega) (fun e => by have h1 := (HLB.out.own.lt b (by rw [HON.out]; exact e.symm)).1; omega)).trans (Below.heap_alloc wo _ _ (by have := HSB.out; omega)))
          have HBB := Lib.hid (show Below M wo wB from ((Below.refl M wo).alloc HSB.out _).grown hgrow8 (by rw [World.size_alloc]; have := HSB.out; omega) (fun z hz => (HLB.out.own.lt z (by rw [HON.out]; exact hz)).1))
          have HVF := Lib.hid (show LstA M (wB.setCell ⟨N + 1, 3, none⟩ (.slice (some ⟨gg, 0, none⟩) (on + 1) cap8)) (.slice (some ⟨gg, 0, none⟩) (on + 1) cap8) (o ++ [((.slice va t vc, ⟨(u6 : Nat), (u7 : Nat), ys⟩) : AV)]) from HPU.out.keep (fun b hb _ => Below.heap_setCell _ _ _ _ (show b ≠ N + 1 by have := HNM.out; omega)))
          have HCF := Lib.hid (show (wB.setCell ⟨N + 1, 3, none⟩ (.slice (some ⟨gg, 0, none⟩) (on + 1) cap8)).heap[N + 1]? = some (.cells #[.int .i64 u1, .int .i64 u2, .int .i64 u3, .slice (some ⟨gg, 0, none⟩) (on + 1) cap8] 68) from setCell_heap HCC.out)
          have HGF := Lib.hid (show w.grownBy (wB.setCell ⟨N + 1, 3, none⟩ (.slice (some ⟨gg, 0, none⟩) (on + 1) cap8)) (some rb) from grown_cells (grown_belowR HG.out (HBB.out.mono (by have := HRB.out; have := HN.out; have := HNM.out; have := HMAB.out; omega)) HBB.out.size) (by rw [HN.out]; omega))
          have HDF := Lib.hid (show RdS (wB.setCell ⟨N + 1, 3, none⟩ (.slice (some ⟨gg, 0, none⟩) (on + 1) cap8)) rb sn from HDR.out.keep (fun b hb => (Below.heap_setCell _ _ _ _ (show b ≠ N + 1 by have := HRB.out; have := HN.out; omega)).trans (HGB.out b (by have := HRB.out; have := HN.out; have := HNM.out; have := HMAB.out; omega))))
          have HMF := Lib.hid (show M ≤ (wB.setCell ⟨N + 1, 3, none⟩ (.slice (some ⟨gg, 0, none⟩) (on + 1) cap8)).heap.size from by rw [World.size_setCell]; exact Nat.le_trans HSB.out HBB.out.size)
          have HRF := Lib.hid (show ∃ z, (wB.setCell ⟨N + 1, 3, none⟩ (.slice (some ⟨gg, 0, none⟩) (on + 1) cap8)).heap[N]? = some (.cells z 68) ∧ z.size = 4 from by obtain ⟨z, h1, h2⟩ := HRRo.out; exact ⟨z, (Below.heap_setCell _ _ _ _ (show N ≠ N + 1 by omega)).trans ((HGB.out N (by have := HNM.out; omega)).trans h1), h2⟩)
          clear hown8 hgrow8 hat8 dB fB hbB c3 hbc g0 g1 g2 hbg
          have hmt9 := HMT.out
          go_wp2_with fail
          go_roundw
          case rel => exact ⟨m + 1, o ++ [((.slice va t vc, ⟨(u6 : Nat), (u7 : Nat), ys⟩) : AV)], _, by have := HMT.out; omega, by go_num, Lib.hid (by rw [HNX.out, List.map_append, HOM.out]; rfl), HCF, HVF, Lib.hid (by rw [HNX.out]; exact HDF.out), HGF, HMF, HRF⟩
          case measure => have := HMT.out; simp [intOf]; omega
    · obtain rfl : m = u4 := by omega
      obtain ⟨z, hzz, hz4⟩ := HRR.out
      have HZZ := Lib.hid hzz; clear hzz
      have HONE := Lib.hid (show rHold s = ((⟨(u1 : Nat), (u2 : Nat), (u3 : Nat)⟩, (rArs m s4).1), (rArs m s4).2) from by
        unfold rHold
        simp only [HU1.out, HS1.out, HU2.out, HS2.out, HU3.out, HS3.out, HU4.out, HS4.out])
      have HSM := Lib.hid (rArs_small m s4)
      go_wp2_with (first | (refine wpList_load_row rfl 68 _ rfl (N + 1) rfl 68 #[.int .i64 u1, .int .i64 u2, .int .i64 u3, .slice oa o.length oc] (0, 0) _ HC6.out Tryz.underlying68 rfl info166s ?_) | (refine wpList_store_row rfl 68 _ _ rfl N #[.int .i64 u1, .int .i64 u2, .int .i64 u3, .slice oa o.length oc] rfl rfl 68 z HZZ.out (by exact info166s) (by rw [hz4]; rfl) (by kernel_rfl) ?_))
      (try simp only [Act.put, List.setIfInBounds_toArray, List.set_cons_zero, List.set_cons_succ])
      go_wp2_with fail
      refine bodyPost_ret (v := .agg #[.int .i64 u1, .int .i64 u2, .int .i64 u3, .slice oa o.length oc]) (results_cell_row Tryz.results36 _ _ N 68 _ (0, 0) _ rfl (setRow_heap w6 N _ _ 68 (0, 0) HZZ.out) Tryz.underlying68 rfl info166s) rfl ?_
      rw [HONE.out]
      dsimp only
      refine ⟨⟨(.slice oa o.length oc, ⟨⟨(u1 : Nat), (u2 : Nat), (u3 : Nat)⟩, o⟩), rfl, rfl, HOM.out, ⟨?_, fun q hq => ⟨?_, (HLA.out.arg q hq).2⟩, owns_nil HLA.out.own, ?_, fun q hq => ?_⟩⟩, grown_rowR HG6.out (by rw [HN.out]; exact Nat.le_refl _), HD6.out.keep (fun b hb => setRow_other _ _ _ _ (by have := HRB.out; have := HN.out; omega))⟩
      · exact (Row.of_owns HLA.out.own).mono (fun b hb => by have h1 : M ≤ b := hb; have := HNM.out; show N ≤ b; omega) (fun b off x hb hc => by rw [cell_setRow_other _ _ _ _ (show b ≠ N by have h1 : M ≤ b := hb; have := HNM.out; omega)]; exact hc)
      · exact (HLA.out.arg q hq).1.mono (fun b hb => by have h1 := hb.1; have := HNM.out; show N ≤ b; omega) (fun b off x hb hc => by rw [cell_setRow_other _ _ _ _ (show b ≠ N by have h1 := hb.1; have := HNM.out; omega)]; exact hc)
      · show o.length ≤ maxLen
        rw [HOL.out]; have := HUL4.out; unfold maxLen; omega
      · have h1 : q.2 ∈ o.map (·.2) := List.mem_map.2 ⟨q, hq, rfl⟩
        rw [HOM.out] at h1
        have h2 := HSM.out _ h1
        unfold maxLen; omega
end Go.Proofs.YtemeppfikpafbaaGreatDoor

/- Numbers, choices and holds that were encoded are read back. -/
namespace Go.Proofs.YtemeppfikpafbaaGreatDoor
open Go.RowKit
theorem uz_zz (x : Int) : uz (zz x) = x := by
  unfold zz uz
  by_cases h : x < 0
  · rw [if_pos h, if_pos (by omega)]; omega
  · rw [if_neg h, if_neg (by omega)]; omega
theorem enc_decA (v : Nat) : ∀ (i acc : Nat) (rest : List Int), (i = 0 ∨ 0 < v) → i ≤ 9 → v * 2 ^ (7 * i) < 18446744073709551616 → decA i acc (encU v ++ rest) = some (acc + v * 2 ^ (7 * i), i + (encU v).length) := by
  induction v using Nat.strongRecOn with
  | _ v ih =>
    intro i acc rest h0 hi hf
    by_cases hv : v < 128
    · rw [encU_lt hv]
      have h9 : ¬ ((i = 9 ∧ 1 < (v : Int)) ∨ (0 < i ∧ (v : Int) = 0)) := by
        rintro (⟨e, h⟩ | ⟨h, e⟩)
        · subst e
          rw [show (2 : Nat) ^ (7 * 9) = 9223372036854775808 by decide] at hf
          omega
        · omega
      rw [List.cons_append, decA_end h9 (by omega)]
      simp
    · have hi8 : i ≤ 8 := by
        by_cases e : i = 9
        · subst e
          rw [show (2 : Nat) ^ (7 * 9) = 9223372036854775808 by decide] at hf
          omega
        · omega
      rw [encU_ge hv, List.cons_append, decA_on (by omega) (by omega), show (((v % 128 + 128 : Nat) : Int)).toNat % 128 = v % 128 by omega]
      have e1 : v % 128 * 2 ^ (7 * i) + v / 128 * (128 * 2 ^ (7 * i)) = v * 2 ^ (7 * i) := by
        rw [← Nat.mul_assoc, ← Nat.add_mul]; congr 1; omega
      rw [ih (v / 128) (by omega) (i + 1) _ rest (Or.inr (by omega)) (by omega) (by rw [pow7]; omega), pow7]
      rw [List.length_cons]
      congr 2
      · omega
      · omega
theorem enc_dec {v : Nat} (h : v < 18446744073709551616) (rest : List Int) : decU (encU v ++ rest) = some (v, (encU v).length) := by
  have := enc_decA v 0 0 rest (Or.inl rfl) (by omega) (by simpa using h)
  simpa [decU] using this
theorem rUint_enc {v most : Nat} (h : v ≤ most) (hv : v < 18446744073709551616) (r : List Int) : rUint most (encU v ++ r, 0) = (v, (r, 0)) := by
  unfold rUint
  rw [if_pos rfl]
  dsimp only
  rw [enc_dec hv r]
  dsimp only
  rw [if_pos h, List.drop_left]
theorem rInt_enc {x : Int} (h : In64 x) (r : List Int) : rInt (encU (zz x) ++ r, 0) = (x, (r, 0)) := by
  unfold rInt
  rw [if_pos rfl]
  dsimp only
  rw [enc_dec (zz_lt h.1 h.2) r]
  dsimp only
  rw [uz_zz, List.drop_left]
theorem rByte_enc (b : Int) (r : List Int) : rByte (b :: r, 0) = (b, (r, 0)) := rfl
theorem rBytes_enc {m : List Int} {most : Nat} (h : m.length ≤ most) (hm : m.length < 18446744073709551616) (r : List Int) : rBytes most (encU m.length ++ m ++ r, 0) = (m, (r, 0)) := by
  unfold rBytes
  rw [if_pos rfl]
  dsimp only
  rw [List.append_assoc, enc_dec hm (m ++ r)]
  dsimp only
  rw [if_pos h, if_pos (by simp), List.drop_left, List.take_left, ← List.drop_drop, List.drop_left, List.drop_left]
theorem rInts_head (n : Nat) (s : RS) : rInts (n + 1) s = ((rInt s).1 :: (rInts n (rInt s).2).1, (rInts n (rInt s).2).2) := by
  induction n with
  | zero => rfl
  | succ n ih =>
    show ((rInts (n + 1) s).1 ++ [(rInt (rInts (n + 1) s).2).1], (rInt (rInts (n + 1) s).2).2) = _
    rw [ih]
    rfl
theorem rUs_head (most n : Nat) (s : RS) : rUs most (n + 1) s = ((rUint most s).1 :: (rUs most n (rUint most s).2).1, (rUs most n (rUint most s).2).2) := by
  induction n with
  | zero => rfl
  | succ n ih =>
    show ((rUs most (n + 1) s).1 ++ [(rUint most (rUs most (n + 1) s).2).1], (rUint most (rUs most (n + 1) s).2).2) = _
    rw [ih]
    rfl
theorem rArs_head (n : Nat) (s : RS) : rArs (n + 1) s = ((rAr s).1 :: (rArs n (rAr s).2).1, (rArs n (rAr s).2).2) := by
  induction n with
  | zero => rfl
  | succ n ih =>
    show ((rArs (n + 1) s).1 ++ [(rAr (rArs (n + 1) s).2).1], (rAr (rArs (n + 1) s).2).2) = _
    rw [ih]
    rfl
theorem rInts_enc : ∀ (l : List Int) (r : List Int), (∀ x ∈ l, In64 x) → rInts l.length (l.flatMap (fun v => encU (zz v)) ++ r, 0) = (l, (r, 0))
  | [], r, _ => rfl
  | x :: l, r, h => by
    rw [List.length_cons, rInts_head, List.flatMap_cons, List.append_assoc, rInt_enc (h x (by simp)), rInts_enc l r (fun y hy => h y (List.mem_cons_of_mem _ hy))]
theorem rUs_enc (most : Nat) : ∀ (l : List Nat) (r : List Int), (∀ x ∈ l, x ≤ most ∧ x < 18446744073709551616) → rUs most l.length (l.flatMap encU ++ r, 0) = (l, (r, 0))
  | [], r, _ => rfl
  | x :: l, r, h => by
    rw [List.length_cons, rUs_head, List.flatMap_cons, List.append_assoc, rUint_enc (h x (by simp)).1 (h x (by simp)).2, rUs_enc most l r (fun y hy => h y (List.mem_cons_of_mem _ hy))]
theorem rOne_enc {x : Cg} (h : CgOk x) (hi : ∀ v ∈ x.l, In64 v) (r : List Int) : rOne (encC x ++ r, 0) = (x, (r, 0)) := by
  obtain ⟨⟨kd, ka, kb, kn⟩, t, d, l⟩ := x
  have hl := h.args
  have h1 := h.key.a0
  have h2 := h.key.a1
  have h3 := h.key.b0
  have h4 := key_small h.key
  have h5 := h.key.n0
  have h6 := h.key.n1
  have h7 := h.t0
  have h8 := h.t1
  have h9 := h.d0
  have h10 := h.d1
  unfold topT at h8
  unfold lowD at h9
  unfold topD at h10
  dsimp only at *
  have h8' : t ≤ 200 := by split at h8 <;> omega
  have h9' : 0 ≤ d := by split at h9 <;> omega
  have h10' : d ≤ 200 := by split at h10 <;> (try split at h10) <;> (try split at h10) <;> omega
  obtain ⟨na, rfl⟩ : ∃ n : Nat, ka = n := ⟨ka.toNat, by omega⟩
  obtain ⟨nb, rfl⟩ : ∃ n : Nat, kb = n := ⟨kb.toNat, by omega⟩
  obtain ⟨nn, rfl⟩ : ∃ n : Nat, kn = n := ⟨kn.toNat, by omega⟩
  obtain ⟨nt, rfl⟩ : ∃ n : Nat, t = n := ⟨t.toNat, by omega⟩
  obtain ⟨nd, rfl⟩ : ∃ n : Nat, d = n := ⟨d.toNat, by omega⟩
  have e : encC ⟨⟨kd, na, nb, nn⟩, nt, nd, l⟩ ++ r = kd :: (([na, nb, nn, nt, nd] : List Nat).flatMap encU ++ (encU l.length ++ (l.flatMap (fun v => encU (zz v)) ++ r))) := by
    simp [encC, l6, List.flatMap_cons, List.append_assoc]
  rw [e]
  have e5 := rUs_enc 65535 [na, nb, nn, nt, nd] (encU l.length ++ (l.flatMap (fun v => encU (zz v)) ++ r)) (fun x hx => by
    simp only [List.mem_cons, List.not_mem_nil, or_false] at hx
    rcases hx with rfl | rfl | rfl | rfl | rfl <;> omega)
  unfold rOne
  rw [rByte_enc]
  dsimp only
  rw [show (5 : Nat) = ([na, nb, nn, nt, nd] : List Nat).length from rfl, e5]
  dsimp only
  rw [rUint_enc hl (by omega)]
  dsimp only
  rw [rInts_enc l r hi]
  rfl
theorem rGo_enc : ∀ (m o : List Cg), (∀ x ∈ m, CgOk x ∧ ∀ v ∈ x.l, In64 v) → (o ++ m).Pairwise (fun x y => ltK x.k y.k) → rGo m.length o (m.flatMap encC, 0) = some (o ++ m)
  | [], o, _, _ => by
    show (if rEnd ([], 0) = 0 then some o else none) = _
    rw [if_pos (show rEnd ([], 0) = 0 from rfl), List.append_nil]
  | x :: m, o, h, hp => by
    obtain ⟨hx, hxi⟩ := h x (by simp)
    have e : ((x :: m).flatMap encC, (0 : Int)) = (encC x ++ m.flatMap encC, 0) := by rw [List.flatMap_cons]
    rw [List.length_cons, e]
    show (if goodC o (rOne _) = true then rGo m.length (o ++ [(rOne _).1]) (rOne _).2 else none) = _
    rw [rOne_enc hx hxi]
    have hg : goodC o (x, (m.flatMap encC, 0)) = true := by
      unfold goodC lastOk
      rw [(cgOkb_iff x).2 hx]
      cases ho : o.getLast? with
      | none => rfl
      | some y =>
        have hy : y ∈ o := List.mem_of_getLast? ho
        have h2 : ltK y.k x.k := (List.pairwise_append.1 hp).2.2 y hy x (by simp)
        simp [h2]
    rw [if_pos hg]
    dsimp only
    rw [rGo_enc m (o ++ [x]) (fun y hy => h y (List.mem_cons_of_mem _ hy)) (by rw [List.append_assoc]; exact hp), List.append_assoc]
    rfl
/-- The bytes of a set are read as that set. -/
theorem rSet_enc {l : List Cg} (hl : l.length ≤ 96) (h : ∀ x ∈ l, CgOk x ∧ ∀ v ∈ x.l, In64 v) (hp : l.Pairwise (fun x y => ltK x.k y.k)) : rSet (encS l) = some l := by
  unfold rSet encS
  rw [rUint_enc hl (by omega)]
  exact rGo_enc l [] h hp
/-- An arrival in bounds. -/
def ArIn (a : AV) : Prop := (0 ≤ a.2.tk ∧ a.2.tk ≤ 200) ∧ (0 ≤ a.2.hd ∧ a.2.hd ≤ 2147483647) ∧ a.2.l.length ≤ 4 ∧ ∀ n ∈ a.2.l, In64 n
theorem rAr_enc {a : AV} (h : ArIn a) (r : List Int) : rAr (encAr a ++ r, 0) = (a.2, (r, 0)) := by
  obtain ⟨v, ⟨t, d, l⟩⟩ := a
  obtain ⟨h1, h2, h3, h4⟩ := h
  dsimp only at *
  obtain ⟨nt, rfl⟩ : ∃ n : Nat, t = n := ⟨t.toNat, by omega⟩
  obtain ⟨nd, rfl⟩ : ∃ n : Nat, d = n := ⟨d.toNat, by omega⟩
  have e : encAr (v, ⟨nt, nd, l⟩) ++ r = encU nt ++ (encU nd ++ (encU l.length ++ (l.flatMap (fun v => encU (zz v)) ++ r))) := by simp [encAr, List.append_assoc]
  rw [e]
  unfold rAr
  rw [rUint_enc (by omega) (by omega)]
  dsimp only
  rw [rUint_enc (by omega) (by omega)]
  dsimp only
  rw [rUint_enc h3 (by omega)]
  dsimp only
  rw [rInts_enc l r h4]
theorem rArs_enc : ∀ (l : List AV) (r : List Int), (∀ a ∈ l, ArIn a) → rArs l.length (l.flatMap encAr ++ r, 0) = (l.map (·.2), (r, 0))
  | [], r, _ => rfl
  | x :: l, r, h => by
    rw [List.length_cons, rArs_head, List.flatMap_cons, List.append_assoc, rAr_enc (h x (by simp)), rArs_enc l r (fun y hy => h y (List.mem_cons_of_mem _ hy)), List.map_cons]
/-- The bytes of a hold are read as that hold. -/
theorem rHold_enc {p : HV} (hok : hoOkb p.2 = true) (ht : ∀ a ∈ p.2.al, a.2.tk ≤ 200) (hi : ∀ a ∈ p.2.al, ∀ n ∈ a.2.l, In64 n) (r : List Int) : rHold (encHo p ++ r, 0) = ((p.2.m, p.2.al.map (·.2)), (r, 0)) := by
  obtain ⟨v, ⟨⟨f, t, n⟩, al⟩⟩ := p
  obtain ⟨p1, p1b, p2, p2b, p3, p4, p5, p6⟩ := ho_parts hok
  dsimp only at *
  have hea := arOkb_each (by omega) p6
  obtain ⟨nf, rfl⟩ : ∃ n : Nat, f = n := ⟨f.toNat, by omega⟩
  obtain ⟨nt, rfl⟩ : ∃ n : Nat, t = n := ⟨t.toNat, by omega⟩
  obtain ⟨nn, rfl⟩ : ∃ k : Nat, n = k := ⟨n.toNat, by omega⟩
  have e : encHo (v, ⟨⟨nf, nt, nn⟩, al⟩) ++ r = encU nf ++ (encU nt ++ (encU nn ++ (encU al.length ++ (al.flatMap encAr ++ r)))) := by simp [encHo, List.append_assoc]
  rw [e]
  unfold rHold
  rw [rUint_enc (by omega) (by omega)]
  dsimp only
  rw [rUint_enc (by omega) (by omega)]
  dsimp only
  rw [rUint_enc (by omega) (by omega)]
  dsimp only
  rw [rUint_enc p5 (by omega)]
  dsimp only
  rw [rArs_enc al r (fun a ha => by
    have h1 := hea a ha
    have h2 := ht a ha
    exact ⟨by omega, by omega, h1.2.2.2, hi a ha⟩)]
end Go.Proofs.YtemeppfikpafbaaGreatDoor

/- certificate.Read in plain words; the bytes of a certificate are read back. -/
namespace Go.Proofs.YtemeppfikpafbaaGreatDoor
open Go.RowKit
def rBys : Nat → RS → List Int × RS
  | 0, s => ([], s)
  | n + 1, s => let r := rBys n s; let q := rByte r.2; (r.1 ++ [q.1], q.2)
def rKey (s : RS) : K4 × RS :=
  let k := rByte s
  let a := rUint 2147483647 k.2
  let b := rUint 2147483647 a.2
  let n := rUint 2147483647 b.2
  (⟨k.1, (a.1 : Nat), (b.1 : Nat), (n.1 : Nat)⟩, n.2)
def rKeys : Nat → RS → List K4 × RS
  | 0, s => ([], s)
  | n + 1, s => let r := rKeys n s; let q := rKey r.2; (r.1 ++ [q.1], q.2)
def rHolds : Nat → RS → List (M3 × List Ar) × RS
  | 0, s => ([], s)
  | n + 1, s => let r := rHolds n s; let q := rHold r.2; (r.1 ++ [q.1], q.2)
/-- What is read ahead of the tests. -/
structure RC where
  fl : List Int
  q : List Int
  hor : Nat
  S : List Cg
  U : List K4
  H : List (M3 × List Ar)
  wit : Nat
  spl : Nat
def rCert (l : List Int) : Option RC :=
  let b := rByte (l, 0)
  if b.1 = 1 then
    let f := rBys 32 b.2
    let q := rBytes 2000 f.2
    let h := rUint 200 q.2
    let c := rBytes l.length h.2
    match rSet c.1 with
    | none => none
    | some S =>
      let nu := rUint 3 c.2
      let u := rKeys nu.1 nu.2
      let nh := rUint 2 u.2
      let hs := rHolds nh.1 nh.2
      let w := rUint 2 hs.2
      let p := rUint 200 w.2
      if rEnd p.2 = 0 then some ⟨f.1, q.1, h.1, S, u.1, hs.1, w.1, p.1⟩ else none
  else none
theorem rBys_head (n : Nat) (s : RS) : rBys (n + 1) s = ((rByte s).1 :: (rBys n (rByte s).2).1, (rBys n (rByte s).2).2) := by
  induction n with
  | zero => rfl
  | succ n ih =>
    show ((rBys (n + 1) s).1 ++ [(rByte (rBys (n + 1) s).2).1], (rByte (rBys (n + 1) s).2).2) = _
    rw [ih]
    rfl
theorem rKeys_head (n : Nat) (s : RS) : rKeys (n + 1) s = ((rKey s).1 :: (rKeys n (rKey s).2).1, (rKeys n (rKey s).2).2) := by
  induction n with
  | zero => rfl
  | succ n ih =>
    show ((rKeys (n + 1) s).1 ++ [(rKey (rKeys (n + 1) s).2).1], (rKey (rKeys (n + 1) s).2).2) = _
    rw [ih]
    rfl
theorem rHolds_head (n : Nat) (s : RS) : rHolds (n + 1) s = ((rHold s).1 :: (rHolds n (rHold s).2).1, (rHolds n (rHold s).2).2) := by
  induction n with
  | zero => rfl
  | succ n ih =>
    show ((rHolds (n + 1) s).1 ++ [(rHold (rHolds (n + 1) s).2).1], (rHold (rHolds (n + 1) s).2).2) = _
    rw [ih]
    rfl
theorem rBys_enc : ∀ (l r : List Int), rBys l.length (l ++ r, 0) = (l, (r, 0))
  | [], r => rfl
  | x :: l, r => by
    rw [List.length_cons, rBys_head, List.cons_append, rByte_enc, rBys_enc l r]
theorem rKey_enc {k : K4} (h : KeyOk k) (r : List Int) : rKey (encK k ++ r, 0) = (k, (r, 0)) := by
  obtain ⟨kd, ka, kb, kn⟩ := k
  have h1 := h.a0
  have h2 := h.a1
  have h3 := h.b0
  have h4 := key_small h
  have h5 := h.n0
  have h6 := h.n1
  dsimp only at *
  obtain ⟨na, rfl⟩ : ∃ n : Nat, ka = n := ⟨ka.toNat, by omega⟩
  obtain ⟨nb, rfl⟩ : ∃ n : Nat, kb = n := ⟨kb.toNat, by omega⟩
  obtain ⟨nn, rfl⟩ : ∃ n : Nat, kn = n := ⟨kn.toNat, by omega⟩
  have e : encK ⟨kd, na, nb, nn⟩ ++ r = kd :: (encU na ++ (encU nb ++ (encU nn ++ r))) := by simp [encK, List.append_assoc]
  rw [e]
  unfold rKey
  rw [rByte_enc]
  dsimp only
  rw [rUint_enc (by omega) (by omega)]
  dsimp only
  rw [rUint_enc (by omega) (by omega)]
  dsimp only
  rw [rUint_enc (by omega) (by omega)]
theorem rKeys_enc : ∀ (l : List K4) (r : List Int), (∀ k ∈ l, KeyOk k) → rKeys l.length (l.flatMap encK ++ r, 0) = (l, (r, 0))
  | [], r, _ => rfl
  | x :: l, r, h => by
    rw [List.length_cons, rKeys_head, List.flatMap_cons, List.append_assoc, rKey_enc (h x (by simp)), rKeys_enc l r (fun y hy => h y (List.mem_cons_of_mem _ hy))]
theorem rHolds_enc : ∀ (l : List HV) (r : List Int), (∀ p ∈ l, hoOkb p.2 = true ∧ (∀ a ∈ p.2.al, a.2.tk ≤ 200) ∧ ∀ a ∈ p.2.al, ∀ n ∈ a.2.l, In64 n) → rHolds l.length (l.flatMap encHo ++ r, 0) = (l.map fun p => (p.2.m, p.2.al.map (·.2)), (r, 0))
  | [], r, _ => rfl
  | x :: l, r, h => by
    obtain ⟨h1, h2, h3⟩ := h x (by simp)
    rw [List.length_cons, rHolds_head, List.flatMap_cons, List.append_assoc, rHold_enc h1 h2 h3, rHolds_enc l r (fun y hy => h y (List.mem_cons_of_mem _ hy)), List.map_cons]
/-- The bytes of a certificate that Check accepts are read as that certificate. -/
theorem rCert_enc {fl : List Int} {c : Cert} (hfl : fl.length = 32) (hk : Chk c 0) (hok : ∀ p ∈ c.S, CgOk p.2) (hasc : AscG c.S) (hsl : c.S.length ≤ 96) (hi : ∀ p ∈ c.S, ∀ n ∈ p.2.l, In64 n) (hh : ∀ p ∈ c.H, ∀ a ∈ p.2.al, ∀ n ∈ a.2.l, In64 n) :
    rCert (encCt fl c) = some ⟨fl, qB c.q, c.hor.toNat, c.S.map (·.2), c.U, c.H.map fun p => (p.2.m, p.2.al.map (·.2)), c.wit.toNat, c.spl.toNat⟩ := by
  obtain ⟨k1, k2, k3, ⟨_, k4⟩, k5⟩ := chk0 hk
  unfold R2 at k2
  unfold R1 at k3
  have hsb := encS_len hsl hok hi
  have hset := rSet_enc (l := c.S.map (·.2)) (by rw [List.length_map]; exact hsl) (fun x hx => by
    obtain ⟨p, hp, rfl⟩ := List.mem_map.1 hx
    exact ⟨hok p hp, hi p hp⟩) (by rw [List.pairwise_map]; exact hasc)
  have hkk : ∀ k ∈ c.U, KeyOk k := fun k hm => key_of_hs hok (k5 k hm)
  have hq := qB_len c.q
  obtain ⟨T1, hT1⟩ : ∃ T, T = encU c.U.length ++ (c.U.flatMap encK ++ (encU c.H.length ++ (c.H.flatMap encHo ++ (encU c.wit.toNat ++ (encU c.spl.toNat ++ []))))) := ⟨_, rfl⟩
  have e : encCt fl c = 1 :: (fl ++ (encU (qB c.q).length ++ qB c.q ++ (encU c.hor.toNat ++ (encU (encS (c.S.map (·.2))).length ++ encS (c.S.map (·.2)) ++ T1)))) := by
    rw [hT1]
    simp [encCt, encCs, List.append_assoc]
  have hlen : (encS (c.S.map (·.2))).length ≤ (encCt fl c).length := by
    rw [e]
    simp only [List.length_cons, List.length_append]
    omega
  generalize (encCt fl c).length = L at *
  unfold rCert
  rw [e, rByte_enc]
  dsimp only
  rw [if_pos rfl, ← hfl, rBys_enc]
  dsimp only
  rw [rBytes_enc (by omega) (by omega)]
  dsimp only
  rw [rUint_enc (by omega) (by omega)]
  dsimp only
  rw [rBytes_enc (by simp only [List.length_cons, List.length_append]; omega) (by omega)]
  dsimp only
  rw [hset]
  dsimp only
  rw [hT1, rUint_enc (by omega) (by omega)]
  dsimp only
  rw [rKeys_enc c.U _ hkk]
  dsimp only
  rw [rUint_enc (by omega) (by omega)]
  dsimp only
  rw [rHolds_enc c.H _ (fun p hp => ⟨k4.ok p hp, fun a ha => by have := k4.tk p hp a ha; omega, hh p hp⟩)]
  dsimp only
  rw [rUint_enc (by omega) (by omega)]
  dsimp only
  rw [rUint_enc (by omega) (by omega)]
  dsimp only
  rw [if_pos (show rEnd ([], 0) = 0 from rfl)]
end Go.Proofs.YtemeppfikpafbaaGreatDoor

/- What Check and Bytes say hangs on the content alone. -/
namespace Go.Proofs.YtemeppfikpafbaaGreatDoor
open Go.RowKit
def hoP (p : HV) : M3 × List Ar := (p.2.m, p.2.al.map (·.2))
/-- A certificate's content, as Read has it. -/
def rcOf (fl : List Int) (c : Cert) : RC := ⟨fl, qB c.q, c.hor.toNat, c.S.map (·.2), c.U, c.H.map hoP, c.wit.toNat, c.spl.toNat⟩
def arOkP : Int → List Ar → Bool
  | _, [] => true
  | last, a :: r => if a.tk < last ∨ a.hd < 0 ∨ 8 ≤ a.hd ∨ 4 < a.l.length then false else arOkP a.tk r
theorem arOkP_eq : ∀ (l : List AV) (last : Int), arOkb last l = arOkP last (l.map (·.2))
  | [], _ => rfl
  | a :: r, last => by
    rw [List.map_cons, arOkb, arOkP, arOkP_eq r]
def hoOkP (h : M3 × List Ar) : Bool := msgOkb h.1 && (decide (h.2.length ≤ 2) && arOkP 1 h.2)
theorem hoOkP_eq (p : HV) : hoOkb p.2 = hoOkP (hoP p) := by
  unfold hoOkb hoOkP hoP
  dsimp only
  rw [arOkP_eq, List.length_map]
structure HoldsP (hor : Int) (l : List (M3 × List Ar)) : Prop where
  asc : ∀ i (h : i + 1 < l.length), ltM l[i].1 l[i + 1].1
  tk : ∀ p ∈ l, ∀ a ∈ p.2, a.tk ≤ hor
  ok : ∀ p ∈ l, hoOkP p = true
theorem holdsP_iff (hor : Int) (l : List HV) : HoldsOk hor l ↔ HoldsP hor (l.map hoP) := by
  constructor
  · intro h
    refine ⟨fun i hi => ?_, fun p hp a ha => ?_, fun p hp => ?_⟩
    · rw [List.length_map] at hi
      simp only [List.getElem_map]
      exact h.asc i hi
    · obtain ⟨x, hx, rfl⟩ := List.mem_map.1 hp
      obtain ⟨y, hy, rfl⟩ := List.mem_map.1 ha
      exact h.tk x hx y hy
    · obtain ⟨x, hx, rfl⟩ := List.mem_map.1 hp
      rw [← hoOkP_eq]; exact h.ok x hx
  · intro h
    refine ⟨fun i hi => ?_, fun p hp a ha => ?_, fun p hp => ?_⟩
    · have := h.asc i (by rw [List.length_map]; exact hi)
      simp only [List.getElem_map] at this
      exact this
    · exact h.tk _ (List.mem_map.2 ⟨p, hp, rfl⟩) _ (List.mem_map.2 ⟨a, ha, rfl⟩)
    · rw [hoOkP_eq]; exact h.ok _ (List.mem_map.2 ⟨p, hp, rfl⟩)
def encArP (a : Ar) : List Int := encU a.tk.toNat ++ encU a.hd.toNat ++ encU a.l.length ++ a.l.flatMap fun v => encU (zz v)
def encHoP (h : M3 × List Ar) : List Int := encU h.1.f.toNat ++ encU h.1.t.toNat ++ encU h.1.n.toNat ++ encU h.2.length ++ h.2.flatMap encArP
theorem encHoP_eq (p : HV) : encHo p = encHoP (hoP p) := by
  unfold encHo encHoP hoP
  dsimp only
  rw [List.length_map, List.flatMap_map]
  rfl
theorem encHoPs (l : List HV) : l.flatMap encHo = (l.map hoP).flatMap encHoP := by
  rw [List.flatMap_map]
  congr 1
  funext p
  exact encHoP_eq p
theorem rcOf_enc {fl fl' : List Int} {c d : Cert} (h : rcOf fl c = rcOf fl' d) : encCt fl c = encCt fl' d := by
  unfold rcOf at h
  simp only [RC.mk.injEq] at h
  obtain ⟨h1, h2, h3, h4, h5, h6, h7, h8⟩ := h
  have h9 : c.H.length = d.H.length := by have := congrArg List.length h6; simpa using this
  unfold encCt encCs
  rw [h1, h2, h3, h4, h5, h7, h8, h9, encHoPs, encHoPs, h6]
theorem hasG_map (l : List GV) (k : K4) : hasG l k = (l.map (·.2)).any (fun x => decide (x.k = k)) := by
  unfold hasG
  rw [List.any_map]
  rfl
theorem rcOf_chk {fl fl' : List Int} {c d : Cert} (h : rcOf fl c = rcOf fl' d) (h0 : 0 ≤ d.hor) (h1 : 0 ≤ d.wit) (h2 : 0 ≤ d.spl) (hk : Chk c 0) : Chk d 0 := by
  obtain ⟨k1, k2, k3, ⟨k4, k5⟩, k6⟩ := chk0 hk
  unfold rcOf at h
  simp only [RC.mk.injEq] at h
  obtain ⟨_, e2, e3, e4, e5, e6, e7, e8⟩ := h
  unfold R2 at k2
  have a1 : d.hor = c.hor := by omega
  have a2 : d.wit = c.wit := by omega
  have a3 : d.spl = c.spl := by omega
  have a4 : d.q.size = c.q.size := by rw [← qB_len, ← qB_len, e2]
  have a5 : c.H.length = d.H.length := by have := congrArg List.length e6; simpa using this
  refine Or.inr ⟨by rw [a4]; exact k1, Or.inr ⟨by unfold R2; rw [a1, a2, a3]; exact k2, Or.inr ⟨by unfold R1 at k3 ⊢; rw [a2, ← e5, ← a5]; exact k3, Or.inr ⟨⟨?_, ?_⟩, Or.inr ⟨?_, rfl⟩⟩⟩⟩⟩
  · have key : ∀ U V : List K4, U = V → (∀ i (h : i + 1 < U.length), ltK U[i] U[i + 1]) → ∀ i (h : i + 1 < V.length), ltK V[i] V[i + 1] := by
      intro U V e
      subst e
      exact id
    exact key _ _ e5 k4
  · rw [a1]
    exact (holdsP_iff _ _).2 (by rw [← e6]; exact (holdsP_iff _ _).1 k5)
  · unfold HS at k6 ⊢
    rw [← e5]
    intro k hm
    rw [hasG_map, ← e4, ← hasG_map]
    exact k6 k hm
end Go.Proofs.YtemeppfikpafbaaGreatDoor

