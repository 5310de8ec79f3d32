/- Texts RhoG, laid together. -/
import Derived.Deep.RegionHeldLaw
import Derived.Test.YtemeppfikpafbaaRp
import Derived.Test.YtemeppfikpafbaaRbd
/- certificate.Read$1 (106), readHold (110). -/
namespace Go.Proofs.Ytemeppfikpafbaa
open Go.RowKit
set_option maxRecDepth 100000 in
theorem num106_any (rb bx : Nat) (s : RS) (most : Nat) (w : World) (hm : most ≤ 2147483647) (hb : w.heap[bx]? = some (.cells #[.pointer (some ⟨rb, 0, none⟩)] 179)) (h : RdS w rb s) :
    Calls Try.prog 106 #[.int .i64 most, .pointer (some ⟨bx, 0, none⟩)] w fun r w' => r = .returned (.int .i64 (rUint most s).1) ∧ w.grownBy w' (some rb) ∧ RdS w' rb (rUint most s).2 := by
  have HC := Lib.hid (rdUint_any rb s most w (by omega) h)
  have HUL := Lib.hid (rUint_le most s)
  have b0 : w.cell? ⟨bx, 0, none⟩ = some (.pointer (some ⟨rb, 0, none⟩)) := cell_of_blk hb rfl
  have hbb := cell_lt b0
  clear hb h
  have hw : IntKind.u64.wrap (most : Int) = most := by rw [IntKind.wrap_u64]; omega
  have hw2 : IntKind.i64.wrap ((rUint most s).1 : Int) = (rUint most s).1 := by rw [IntKind.wrap_i64]; have := HUL.out; omega
  generalize (rUint most s).1 = u at *
  generalize (rUint most s).2 = s2 at *
  go_enter Try.func106, Try.ntmps106
  go_wp2_with fail
  refine HC.out.mono ?_
  rintro e w' ⟨rfl, hg, hd⟩
  have HG := Lib.hid hg
  have HD := Lib.hid hd
  clear hg hd b0 hbb
  go_wp2_with fail
  go_ret
  exact ⟨rfl, HG.out, HD.out⟩
/-- An arrival is read. -/
def rAr (s : RS) : Ar × RS :=
  let t := rUint 200 s
  let h := rUint 2147483647 t.2
  let c := rUint 4 h.2
  let a := rInts c.1 c.2
  (⟨(t.1 : Nat), (h.1 : Nat), a.1⟩, a.2)
def rArs : Nat → RS → List Ar × RS
  | 0, s => ([], s)
  | n + 1, s => let r := rArs n s; let q := rAr r.2; (r.1 ++ [q.1], q.2)
/-- A hold is read: its message and arrivals. -/
def rHold (s : RS) : (M3 × List Ar) × RS :=
  let f := rUint 2147483647 s
  let t := rUint 2147483647 f.2
  let n := rUint 2147483647 t.2
  let c := rUint 2 n.2
  let a := rArs c.1 c.2
  ((⟨(f.1 : Nat), (t.1 : Nat), (n.1 : Nat)⟩, a.1), a.2)
/-- The arrivals that were read so far, in blocks from M on. -/
structure LstA (M : Nat) (w : World) (v : Value) (l : List AV) : Prop where
  own : w.ownsRow M 177 3 v l.length (flatC aC l)
  arg : ∀ q ∈ l, Row (fun b => M ≤ b ∧ v.ownBlock ≠ some b) w 1 q.2.l.length q.1 (flatC nC q.2.l) ∧ NilA q.1
theorem LstA.keep {M : Nat} {w w' : World} {v : Value} {l : List AV} (h : LstA M w v l) (hk : ∀ b, M ≤ b → b < w.heap.size → w'.heap[b]? = w.heap[b]?) : LstA M w' v l :=
  ⟨owns_keep h.own (fun z hz => hk z (h.own.lt z hz).1 (h.own.lt z hz).2), fun q hq => ⟨((h.arg q hq).1.lt (by omega)).mono (fun b hb => hb.1) (fun b off x hb hc => by
    rw [← hc]; exact World.cell?_of_block (w := w) (a := ⟨b, off, none⟩) (hk b hb.1.1 hb.2)), (h.arg q hq).2⟩⟩
theorem LstA.push {M : Nat} {w w' : World} {v v' : Value} {l : List AV} (h : LstA M w v l) {p : AV} (hp : Row (fun b => M ≤ b ∧ v.ownBlock ≠ some b) w 1 p.2.l.length p.1 (flatC nC p.2.l) ∧ NilA p.1)
    (hown : w'.ownsRow M 177 3 v' (l.length + 1) (flatC aC l ++ aC p)) (hg : w.grownBy w' v.ownBlock) (hv : ∀ z, v'.ownBlock = some z → v.ownBlock = some z ∨ w.heap.size ≤ z) : LstA M w' v' (l ++ [p]) := by
  have key : ∀ x : AV, (Row (fun b => M ≤ b ∧ v.ownBlock ≠ some b) w 1 x.2.l.length x.1 (flatC nC x.2.l) ∧ NilA x.1) → (Row (fun b => M ≤ b ∧ v'.ownBlock ≠ some b) w' 1 x.2.l.length x.1 (flatC nC x.2.l) ∧ NilA x.1) := fun x hx => ⟨(hx.1.lt (by omega)).mono (fun b hb => ⟨hb.1.1, fun e => by
    rcases hv b e with h1 | h1
    · exact hb.1.2 h1
    · have := hb.2; omega⟩) (fun b off y hb hc => by
    rw [← hc]; exact World.cell?_of_block (w := w) (a := ⟨b, off, none⟩) (hg.block b hb.2 (fun e => hb.1.2 e.symm))), hx.2⟩
  refine ⟨by rw [List.length_append, List.length_singleton, flatC_push]; exact hown, fun x hx => ?_⟩
  rcases List.mem_append.1 hx with h1 | h1
  · exact key x (h.arg x h1)
  · rw [List.mem_singleton] at h1; subst h1; exact key x hp
theorem rArs_len (n : Nat) (s : RS) : (rArs n s).1.length = n := by
  induction n with
  | zero => rfl
  | succ n ih => simp [rArs, ih]
theorem rArs_small (n : Nat) (s : RS) : ∀ a ∈ (rArs n s).1, a.l.length ≤ 4 := by
  induction n with
  | zero => intro a ha; cases ha
  | succ n ih =>
    intro a ha
    rcases List.mem_append.1 ha with h | h
    · exact ih a h
    · rw [List.mem_singleton] at h
      subst h
      show (rInts _ _).1.length ≤ 4
      rw [rInts_len]
      exact rUint_le 4 _
theorem info166s : (Try.prog.info? 166).map (·.size) = some 4 := by kernel_rfl
theorem info177s : (Try.prog.info? 177).map (·.size) = some 3 := by kernel_rfl
set_option maxRecDepth 100000 in
set_option maxHeartbeats 4000000 in
theorem readHold110_any (rb bx : Nat) (s : RS) (w : World) (hbx : w.heap[bx]? = some (.cells #[.pointer (some ⟨rb, 0, none⟩)] 179)) (hne : bx ≠ rb) (h : RdS w rb s) :
    Calls Try.prog 110 #[.pointer (some ⟨rb, 0, none⟩), .func (.func 106) #[] #[.pointer (some ⟨bx, 0, none⟩)]] w fun r w' => (∃ p : HV, r = .returned (hA p) ∧ p.2.m = (rHold s).1.1 ∧ p.2.al.map (·.2) = (rHold s).1.2 ∧ HAt (fun b => w.heap.size ≤ b) w' p) ∧ w.grownBy w' (some rb) ∧ RdS w' rb (rHold s).2 := by
  obtain ⟨N, HN⟩ : ∃ N, Hid (N = w.heap.size) := ⟨_, Lib.hid rfl⟩
  have HRB := Lib.hid (show rb < w.heap.size from h.lt)
  have HD := Lib.hid h; clear h
  have HBX := Lib.hid hbx; clear hbx
  have HNE := Lib.hid hne; clear hne
  have HBW := Lib.hid (show ∀ W, w.grownBy W (some rb) → W.heap[bx]? = some (.cells #[.pointer (some ⟨rb, 0, none⟩)] 179) from fun W hW => (hW.block bx (blk_lt HBX.out) (fun e => HNE.out (by injection e))).trans HBX.out)
  obtain ⟨i0, hi0, hz0, hz1, hz2⟩ := info_parts infoN2
  obtain ⟨i1, hi1, hy0, hy1, hy2⟩ := info_parts infoA
  obtain ⟨hB, hR, hML⟩ := boxed2 w (.cells #[.int .i64 0, .int .i64 0, .int .i64 0, .slice none 0 0] 166) (.cells #[.int .i64 0, .int .i64 0, .int .i64 0, .slice none 0 0] 166)
  have HR0 := Lib.hid hB; have HC0 := Lib.hid hR; have HM1 := Lib.hid hML.1
  clear hB hR hML
  rw [← HN.out] at HR0 HC0 ⊢
  go_enter Try.func110, Try.ntmps110
  go_upto_region 2 with (fail)
  rw [← HN.out]
  generalize (w.alloc (.cells #[.int .i64 0, .int .i64 0, .int .i64 0, .slice none 0 0] 166)).alloc (.cells #[.int .i64 0, .int .i64 0, .int .i64 0, .slice none 0 0] 166) = w1 at *
  have HG1 := Lib.hid (more_grown HM1.out rb)
  have HD1 := Lib.hid (show RdS w1 rb s from HD.out.more HM1.out)
  have HCU := Lib.hid (num106_any rb bx s 2147483647 w1 (by omega) (HBW.out _ HG1.out) HD1.out)
  have HUL1 := Lib.hid (rUint_le 2147483647 s)
  obtain ⟨u1, HU1⟩ : ∃ ux, Hid ((rUint 2147483647 s).1 = ux) := ⟨_, Lib.hid rfl⟩
  obtain ⟨s1, HS1⟩ : ∃ sx, Hid ((rUint 2147483647 s).2 = sx) := ⟨_, Lib.hid rfl⟩
  rw [HU1.out] at HCU HUL1
  rw [HS1.out] at HCU
  go_wp2_with fail
  refine HCU.out.mono ?_
  rintro e w2 ⟨rfl, hg, hd⟩
  have HG2 := Lib.hid (grown_trans HG1.out hg)
  have HD2 := Lib.hid hd
  have HC2 := Lib.hid ((hg.block _ (blk_lt HC0.out) (fun e => by injection e with e; have := HRB.out; have := HN.out; omega)).trans HC0.out)
  have HR2 := Lib.hid ((hg.block _ (blk_lt HR0.out) (fun e => by injection e with e; have := HRB.out; have := HN.out; omega)).trans HR0.out)
  clear hg hd HCU
  have HCU := Lib.hid (num106_any rb bx s1 2147483647 w2 (by omega) (HBW.out _ HG2.out) HD2.out)
  have HUL2 := Lib.hid (rUint_le 2147483647 s1)
  obtain ⟨u2, HU2⟩ : ∃ ux, Hid ((rUint 2147483647 s1).1 = ux) := ⟨_, Lib.hid rfl⟩
  obtain ⟨s2, HS2⟩ : ∃ sx, Hid ((rUint 2147483647 s1).2 = sx) := ⟨_, Lib.hid rfl⟩
  rw [HU2.out] at HCU HUL2
  rw [HS2.out] at HCU
  go_wp2_with fail
  refine HCU.out.mono ?_
  rintro e w3 ⟨rfl, hg, hd⟩
  have HG3 := Lib.hid (grown_trans HG2.out hg)
  have HD3 := Lib.hid hd
  have HC3 := Lib.hid ((hg.block _ (blk_lt HC2.out) (fun e => by injection e with e; have := HRB.out; have := HN.out; omega)).trans HC2.out)
  have HR3 := Lib.hid ((hg.block _ (blk_lt HR2.out) (fun e => by injection e with e; have := HRB.out; have := HN.out; omega)).trans HR2.out)
  clear hg hd HCU
  have HCU := Lib.hid (num106_any rb bx s2 2147483647 w3 (by omega) (HBW.out _ HG3.out) HD3.out)
  have HUL3 := Lib.hid (rUint_le 2147483647 s2)
  obtain ⟨u3, HU3⟩ : ∃ ux, Hid ((rUint 2147483647 s2).1 = ux) := ⟨_, Lib.hid rfl⟩
  obtain ⟨s3, HS3⟩ : ∃ sx, Hid ((rUint 2147483647 s2).2 = sx) := ⟨_, Lib.hid rfl⟩
  rw [HU3.out] at HCU HUL3
  rw [HS3.out] at HCU
  go_wp2_with fail
  refine HCU.out.mono ?_
  rintro e w4 ⟨rfl, hg, hd⟩
  have HG4 := Lib.hid (grown_trans HG3.out hg)
  have HD4 := Lib.hid hd
  have HC4 := Lib.hid ((hg.block _ (blk_lt HC3.out) (fun e => by injection e with e; have := HRB.out; have := HN.out; omega)).trans HC3.out)
  have HR4 := Lib.hid ((hg.block _ (blk_lt HR3.out) (fun e => by injection e with e; have := HRB.out; have := HN.out; omega)).trans HR3.out)
  clear hg hd HCU
  have c0 : w4.cell? ⟨N + 1, 0, none⟩ = some (.int .i64 0) := cell_of_blk HC4.out rfl
  have c1 : w4.cell? ⟨N + 1, 1, none⟩ = some (.int .i64 0) := cell_of_blk HC4.out rfl
  have c2 : w4.cell? ⟨N + 1, 2, none⟩ = some (.int .i64 0) := cell_of_blk HC4.out rfl
  have f0 := thaw HC4.out 0
  have f1 := thaw HC4.out 1
  have f2 := thaw HC4.out 2
  have hbc := cell_lt c0
  go_upto_region 3 with (fail)
  clear c0 c1 c2 f0 f1 f2 hbc
  have HC5 := Lib.hid (show (((w4.setCell ⟨N + 1, 0, none⟩ (.int .i64 u1)).setCell ⟨N + 1, 1, none⟩ (.int .i64 u2)).setCell ⟨N + 1, 2, none⟩ (.int .i64 u3)).heap[N + 1]? = some (.cells #[.int .i64 u1, .int .i64 u2, .int .i64 u3, .slice none 0 0] 166) from setCell_heap (setCell_heap (setCell_heap HC4.out)))
  have HK5 := Lib.hid (show ∀ b, b ≠ N + 1 → (((w4.setCell ⟨N + 1, 0, none⟩ (.int .i64 u1)).setCell ⟨N + 1, 1, none⟩ (.int .i64 u2)).setCell ⟨N + 1, 2, none⟩ (.int .i64 u3)).heap[b]? = w4.heap[b]? from fun b hb => (Below.heap_setCell _ _ _ _ hb).trans ((Below.heap_setCell _ _ _ _ hb).trans (Below.heap_setCell _ _ _ _ hb)))
  have HG5 := Lib.hid (show w.grownBy (((w4.setCell ⟨N + 1, 0, none⟩ (.int .i64 u1)).setCell ⟨N + 1, 1, none⟩ (.int .i64 u2)).setCell ⟨N + 1, 2, none⟩ (.int .i64 u3)) (some rb) from grown_cells (grown_cells (grown_cells HG4.out (by rw [HN.out]; omega)) (by rw [HN.out]; omega)) (by rw [HN.out]; omega))
  generalize ((w4.setCell ⟨N + 1, 0, none⟩ (.int .i64 u1)).setCell ⟨N + 1, 1, none⟩ (.int .i64 u2)).setCell ⟨N + 1, 2, none⟩ (.int .i64 u3) = w5 at *
  have HR5 := Lib.hid ((HK5.out N (by omega)).trans HR4.out)
  have HD5 := Lib.hid (show RdS w5 rb s3 from HD4.out.keep (fun b hb => HK5.out b (by have := HRB.out; have := HN.out; omega)))
  clear HK5
  have HCU := Lib.hid (num106_any rb bx s3 2 w5 (by omega) (HBW.out _ HG5.out) HD5.out)
  have HUL4 := Lib.hid (rUint_le 2 s3)
  obtain ⟨u4, HU4⟩ : ∃ ux, Hid ((rUint 2 s3).1 = ux) := ⟨_, Lib.hid rfl⟩
  obtain ⟨s4, HS4⟩ : ∃ sx, Hid ((rUint 2 s3).2 = sx) := ⟨_, Lib.hid rfl⟩
  rw [HU4.out] at HCU HUL4
  rw [HS4.out] at HCU
  go_wp2_with fail
  refine HCU.out.mono ?_
  rintro e w6 ⟨rfl, hg, hd⟩
  have HG6 := Lib.hid (grown_trans HG5.out hg)
  have HD6 := Lib.hid hd
  have HC6 := Lib.hid ((hg.block _ (blk_lt HC5.out) (fun e => by injection e with e; have := HRB.out; have := HN.out; omega)).trans HC5.out)
  have HR6 := Lib.hid ((hg.block _ (blk_lt HR5.out) (fun e => by injection e with e; have := HRB.out; have := HN.out; omega)).trans HR5.out)
  clear hg hd HCU
  obtain ⟨M, HMM⟩ : ∃ M, Hid (M = w6.heap.size) := ⟨_, Lib.hid rfl⟩
  have HNM := Lib.hid (show N + 1 < M by rw [HMM.out]; exact blk_lt HC6.out)
  have hu4 := HUL4.out
  go_wp2_with fail
  go_loopw [21] (fun i wr => ∃ (m : Nat) (o : List AV) (v : Value), m ≤ u4 ∧ i = .int .i64 m ∧ Hid (o.map (·.2) = (rArs m s4).1) ∧ Hid (wr.heap[N + 1]? = some (.cells #[.int .i64 u1, .int .i64 u2, .int .i64 u3, v] 166)) ∧ Hid (LstA M wr v o) ∧ Hid (RdS wr rb (rArs m s4).2) ∧ Hid (w.grownBy wr (some rb)) ∧ Hid (M ≤ wr.heap.size) ∧ Hid (∃ z, wr.heap[N]? = some (.cells z 166) ∧ z.size = 4)) (fun i _ => u4 - (intOf i).toNat)
  case atStart => exact ⟨0, [], .slice none 0 0, Nat.zero_le _, rfl, Lib.hid rfl, HC6, Lib.hid ⟨World.ownsRow_nil _ _ _ _, fun q hq => (by cases hq)⟩, HD6, HG6, Lib.hid (by rw [HMM.out]; exact Nat.le_refl _), Lib.hid ⟨_, HR6.out, rfl⟩⟩
  case round =>
    clear HC6 HD6 HG6 HR6
    obtain ⟨m, o, v, hm, rfl, HOM, HC6, HLA, HD6, HG6, HMS, HRR⟩ := hrel
    obtain ⟨w6, rfl⟩ : ∃ wz : World, wz = wr := ⟨_, rfl⟩
    obtain ⟨oa, oc, rfl, _⟩ := owns_shape HLA.out.own
    have hu4 := HUL4.out
    have HOL := Lib.hid (show o.length = m by have h1 := congrArg List.length HOM.out; rw [List.length_map, rArs_len] at h1; exact h1)
    by_cases hmt : m < u4
    · have HMT := Lib.hid hmt
      obtain ⟨s5, HS5⟩ : ∃ s5, Hid ((rArs m s4).2 = s5) := ⟨_, Lib.hid rfl⟩
      rw [HS5.out] at HD6
      have HCU := Lib.hid (num106_any rb bx s5 200 w6 (by omega) (HBW.out _ HG6.out) HD6.out)
      have HUL6 := Lib.hid (rUint_le 200 s5)
      obtain ⟨u6, HU6⟩ : ∃ ux, Hid ((rUint 200 s5).1 = ux) := ⟨_, Lib.hid rfl⟩
      obtain ⟨s6, HS6⟩ : ∃ sx, Hid ((rUint 200 s5).2 = sx) := ⟨_, Lib.hid rfl⟩
      rw [HU6.out] at HCU HUL6
      rw [HS6.out] at HCU
      go_wp2_with fail
      refine HCU.out.mono ?_
      rintro e w7 ⟨rfl, hg, hd⟩
      have HG7 := Lib.hid (grown_trans HG6.out hg)
      have HD7 := Lib.hid hd
      have HLA7 := Lib.hid (HLA.out.keep (fun b hb hl => hg.block b hl (fun e => by injection e with e; have := HRB.out; have := HN.out; have := HNM.out; omega)))
      have HRR7 := Lib.hid (show ∃ z, w7.heap[N]? = some (.cells z 166) ∧ z.size = 4 from by obtain ⟨z, h1, h2⟩ := HRR.out; exact ⟨z, (hg.block N (blk_lt h1) (fun e => by injection e with e; have := HRB.out; have := HN.out; omega)).trans h1, h2⟩)
      have HMS7 := Lib.hid (Nat.le_trans HMS.out hg.size)
      have HC7 := Lib.hid ((hg.block _ (blk_lt HC6.out) (fun e => by injection e with e; have := HRB.out; have := HN.out; omega)).trans HC6.out)
      clear hg hd HCU
      have HCU := Lib.hid (num106_any rb bx s6 2147483647 w7 (by omega) (HBW.out _ HG7.out) HD7.out)
      have HUL7 := Lib.hid (rUint_le 2147483647 s6)
      obtain ⟨u7, HU7⟩ : ∃ ux, Hid ((rUint 2147483647 s6).1 = ux) := ⟨_, Lib.hid rfl⟩
      obtain ⟨s7, HS7⟩ : ∃ sx, Hid ((rUint 2147483647 s6).2 = sx) := ⟨_, Lib.hid rfl⟩
      rw [HU7.out] at HCU HUL7
      rw [HS7.out] at HCU
      go_wp2_with fail
      refine HCU.out.mono ?_
      rintro e w8 ⟨rfl, hg, hd⟩
      have HG8 := Lib.hid (grown_trans HG7.out hg)
      have HD8 := Lib.hid hd
      have HLA8 := Lib.hid (HLA7.out.keep (fun b hb hl => hg.block b hl (fun e => by injection e with e; have := HRB.out; have := HN.out; have := HNM.out; omega)))
      have HRR8 := Lib.hid (show ∃ z, w8.heap[N]? = some (.cells z 166) ∧ z.size = 4 from by obtain ⟨z, h1, h2⟩ := HRR7.out; exact ⟨z, (hg.block N (blk_lt h1) (fun e => by injection e with e; have := HRB.out; have := HN.out; omega)).trans h1, h2⟩)
      have HMS8 := Lib.hid (Nat.le_trans HMS7.out hg.size)
      have HC8 := Lib.hid ((hg.block _ (blk_lt HC7.out) (fun e => by injection e with e; have := HRB.out; have := HN.out; omega)).trans HC7.out)
      clear hg hd HCU
      go_upto_region 6 with (fail)
      have HAB := Lib.hid (alloc_last w8 (.cells #[.int .i64 u6, .int .i64 u7, .slice none 0 0] 177))
      have HMA := Lib.hid (more_alloc w8 (.cells #[.int .i64 u6, .int .i64 u7, .slice none 0 0] 177))
      generalize w8.alloc (.cells #[.int .i64 u6, .int .i64 u7, .slice none 0 0] 177) = w9 at *
      obtain ⟨AB, HAE⟩ : ∃ AB, Hid (AB = w8.heap.size) := ⟨_, Lib.hid rfl⟩
      rw [← HAE.out] at HAB ⊢
      have HG9 := Lib.hid (grown_trans HG8.out (more_grown HMA.out rb))
      have HD9 := Lib.hid (show RdS w9 rb s7 from HD8.out.more HMA.out)
      have HLA9 := Lib.hid (HLA8.out.keep (fun b _ hl => HMA.out.block hl))
      have HRR9 := Lib.hid (show ∃ z, w9.heap[N]? = some (.cells z 166) ∧ z.size = 4 from by obtain ⟨z, h1, h2⟩ := HRR8.out; exact ⟨z, (HMA.out.block (blk_lt h1)).trans h1, h2⟩)
      have HC9 := Lib.hid ((HMA.out.block (blk_lt HC8.out)).trans HC8.out)
      have HMAB := Lib.hid (show M ≤ AB by rw [HAE.out]; exact HMS8.out)
      have HOB := Lib.hid (show ∀ z, (Value.slice oa o.length oc).ownBlock = some z → z < AB from fun z hz => by rw [HAE.out]; exact (HLA8.out.own.lt z hz).2)
      have HCU := Lib.hid (num106_any rb bx s7 4 w9 (by omega) (HBW.out _ HG9.out) HD9.out)
      have HUL8 := Lib.hid (rUint_le 4 s7)
      obtain ⟨u8, HU8⟩ : ∃ ux, Hid ((rUint 4 s7).1 = ux) := ⟨_, Lib.hid rfl⟩
      obtain ⟨s8, HS8⟩ : ∃ sx, Hid ((rUint 4 s7).2 = sx) := ⟨_, Lib.hid rfl⟩
      rw [HU8.out] at HCU HUL8
      rw [HS8.out] at HCU
      go_wp2_with fail
      refine HCU.out.mono ?_
      rintro e w10 ⟨rfl, hg, hd⟩
      have HG10 := Lib.hid (grown_trans HG9.out hg)
      have HD10 := Lib.hid hd
      have HG910 := Lib.hid hg
      have HLA10 := Lib.hid (HLA9.out.keep (fun b hb hl => hg.block b hl (fun e => by injection e with e; have := HRB.out; have := HN.out; have := HNM.out; omega)))
      have HRR10 := Lib.hid (show ∃ z, w10.heap[N]? = some (.cells z 166) ∧ z.size = 4 from by obtain ⟨z, h1, h2⟩ := HRR9.out; exact ⟨z, (hg.block N (blk_lt h1) (fun e => by injection e with e; have := HRB.out; have := HN.out; omega)).trans h1, h2⟩)
      have HAB10 := Lib.hid ((hg.block AB (blk_lt HAB.out) (fun e => by injection e with e; have := HRB.out; have := HN.out; have := HNM.out; have := HMAB.out; omega)).trans HAB.out)
      have HC10 := Lib.hid ((hg.block _ (blk_lt HC9.out) (fun e => by injection e with e; have := HRB.out; have := HN.out; omega)).trans HC9.out)
      clear hg hd HCU
      have hu8 := HUL8.out
      go_wp2_with fail
      go_loopw [30] (fun i wr => ∃ (t : Nat) (av : Value), t ≤ u8 ∧ i = .int .i64 t ∧ Hid (wr.heap[AB]? = some (.cells #[.int .i64 u6, .int .i64 u7, av] 177)) ∧ Hid (wr.ownsRow (AB + 1) 2 1 av t (flatC nC (rInts t s8).1)) ∧ Hid (RdS wr rb (rInts t s8).2) ∧ Hid (w.grownBy wr (some rb)) ∧ Hid (∀ b, b < AB → b ≠ rb → wr.heap[b]? = w10.heap[b]?) ∧ Hid (AB + 1 ≤ wr.heap.size)) (fun i _ => u8 - (intOf i).toNat)
      case atStart => exact ⟨0, .slice none 0 0, Nat.zero_le _, rfl, HAB10, Lib.hid (World.ownsRow_nil _ _ _ _), HD10, HG10, Lib.hid (fun _ _ _ => rfl), Lib.hid (blk_lt HAB10.out)⟩
      case round =>
        obtain ⟨t, av, ht, rfl, HC, HO, HDR, HG, HKP, HMS2⟩ := hrel
        obtain ⟨wo, rfl⟩ : ∃ wo : World, wo = wr := ⟨_, rfl⟩
        obtain ⟨va, vc, rfl, _⟩ := owns_shape HO.out
        have hu8 := HUL8.out
        by_cases htt : t < u8
        · have HTT := Lib.hid htt
          have HNX := Lib.hid (show rInts (t + 1) s8 = ((rInts t s8).1 ++ [(rInt (rInts t s8).2).1], (rInt (rInts t s8).2).2) from rfl)
          generalize (rInts t s8).1 = ys at *
          generalize (rInts t s8).2 = sm2 at *
          have HCI := Lib.hid (fun W (hW : More wo W) => rdInt_any rb sm2 W (HDR.out.more hW))
          generalize (rInt sm2).1 = g at *
          generalize (rInt sm2).2 = sn at *
          have HLD := Lib.hid (more_drew wo)
          have c6 : wo.cell? ⟨AB, 2, none⟩ = some (.slice va t vc) := cell_of_blk HC.out rfl
          have hbc := cell_lt c6
          have HR9 := Lib.hid (room8 (n := t + 1) (by omega))
          go_upto_region 8 with (fail)
          go_region_law (first | (go_simp; go_at_call 161; refine (HCI.out _ HLD.out).mono ?_; rintro e wA ⟨rfl, hgA, hdA⟩; have HGA := Lib.hid (grown_any HLD.out hgA); have HDA := Lib.hid hdA; have HCA := Lib.hid ((HGA.out.block AB (blk_lt HC.out) (fun e => by injection e with e; have := HRB.out; have := HN.out; have := HNM.out; have := HMAB.out; omega)).trans HC.out); have dA : wA.cell? ⟨AB, 2, none⟩ = some (.slice va t vc) := cell_of_blk HCA.out rfl; have hbA := cell_lt dA; have HOA := Lib.hid (owns_keep HO.out (fun z hz => HGA.out.block z (HO.out.lt z hz).2 (fun e => by injection e with e; have h1 := (HO.out.lt z hz).1; have := HRB.out; have := HN.out; have := HNM.out; have := HMAB.out; omega))); clear hgA hdA) | (refine step_append_lies _ (by rfl) _ _ _ (by rfl) (AB + 1) 2 i0 _ 1 8 Try.underlying111 hi0 hz0 hz1 hz2 (by rfl) (by omega) (.slice va t vc) t (flatC nC ys) (by rfl) (owns_keep HOA.out (fun z hz => Below.heap_alloc wA _ _ (HOA.out.lt z hz).2)) ⟨wA.heap.size, 0, none⟩ 1 1 [.int .i64 g] (by rfl) (by rfl) (World.news_of_block (cs := #[.int .i64 g]) (t := 2) (fr := (0, 0)) (alloc_last _ _)) (by simp [Value.oneCell']) (by omega) HR9.out.1 HR9.out.2 (by rw [World.size_alloc]; exact Nat.le_succ_of_le (Nat.le_trans HMS2.out HGA.out.size)) (wA.heap.size + 1) (by simp) ?_; intro gg cap8 wB hownB hgrowB hatB _; have HCB := Lib.hid ((hgrowB.block AB (by rw [World.size_alloc]; exact Nat.lt_succ_of_lt (blk_lt HCA.out)) (fun e => by have := (HOA.out.lt AB e.symm).1; omega)).trans ((Below.heap_alloc wA _ _ (blk_lt HCA.out)).trans HCA.out)); have dB : wB.cell? ⟨AB, 2, none⟩ = some (.slice va t vc) := cell_of_blk HCB.out rfl; have fB := thaw HCB.out 2; have hbB := cell_lt dB))
          all_goals
            have HCF := Lib.hid (show (wB.setCell ⟨AB, 2, none⟩ (.slice (some ⟨gg, 0, none⟩) (t + 1) cap8)).heap[AB]? = some (.cells #[.int .i64 u6, .int .i64 u7, .slice (some ⟨gg, 0, none⟩) (t + 1) cap8] 177) from setCell_heap HCB.out)
            have HOF := Lib.hid (show (wB.setCell ⟨AB, 2, none⟩ (.slice (some ⟨gg, 0, none⟩) (t + 1) cap8)).ownsRow (AB + 1) 2 1 (.slice (some ⟨gg, 0, none⟩) (t + 1) cap8) (t + 1) (flatC nC (ys ++ [g])) from by
              rw [flatC_push]
              exact owns_keep hownB (fun z hz => Below.heap_setCell _ _ _ _ (show z ≠ AB by have := (hownB.lt z hz).1; omega)))
            have HBB := Lib.hid (show Below AB wA wB from ((Below.refl AB wA).alloc (by have := blk_lt HCA.out; omega) _).grown hgrowB (by rw [World.size_alloc]; have := blk_lt HCA.out; omega) (fun z hz => by have := (HOA.out.lt z hz).1; omega))
            have HWA := Lib.hid (show w.heap.size ≤ AB by have := HRB.out; have := HN.out; have := HNM.out; have := HMAB.out; omega)
            have HGF := Lib.hid (show w.grownBy (wB.setCell ⟨AB, 2, none⟩ (.slice (some ⟨gg, 0, none⟩) (t + 1) cap8)) (some rb) from grown_cells (grown_belowR (grown_trans HG.out HGA.out) (HBB.out.mono HWA.out) HBB.out.size) HWA.out)
            have HDF := Lib.hid (show RdS (wB.setCell ⟨AB, 2, none⟩ (.slice (some ⟨gg, 0, none⟩) (t + 1) cap8)) rb sn from HDA.out.keep (fun b hb => (Below.heap_setCell _ _ _ _ (show b ≠ AB by have := HRB.out; have := HWA.out; omega)).trans (HBB.out.block b (by have := HRB.out; have := HWA.out; omega))))
            have HKF := Lib.hid (show ∀ b, b < AB → b ≠ rb → (wB.setCell ⟨AB, 2, none⟩ (.slice (some ⟨gg, 0, none⟩) (t + 1) cap8)).heap[b]? = w10.heap[b]? from fun b hb hr => (Below.heap_setCell _ _ _ _ (show b ≠ AB by omega)).trans ((HBB.out.block b hb).trans ((HGA.out.block b (by have := blk_lt HC.out; omega) (fun e => hr (by injection e))).trans (HKP.out b hb hr))))
            have HMF := Lib.hid (show AB + 1 ≤ (wB.setCell ⟨AB, 2, none⟩ (.slice (some ⟨gg, 0, none⟩) (t + 1) cap8)).heap.size from by rw [World.size_setCell]; exact Nat.le_trans HMS2.out (Nat.le_trans HGA.out.size HBB.out.size))
            clear hownB hgrowB hatB dB fB hbB c6 hbc dA hbA
            have htt9 := HTT.out
            go_wp2_with fail
            go_roundw
            case rel => exact ⟨t + 1, _, by have := HTT.out; omega, by go_num, HCF, Lib.hid (by rw [HNX.out]; exact HOF.out), Lib.hid (by rw [HNX.out]; exact HDF.out), HGF, HKF, HMF⟩
            case measure => have := HTT.out; simp [intOf]; omega
        · obtain rfl : t = u8 := by omega
          clear htt ht
          have HNX := Lib.hid (show rArs (m + 1) s4 = ((rArs m s4).1 ++ [⟨(u6 : Nat), (u7 : Nat), (rInts t s8).1⟩], (rInts t s8).2) from by
              show ((rArs m s4).1 ++ [(rAr (rArs m s4).2).1], (rAr (rArs m s4).2).2) = _
              rw [HS5.out]
              unfold rAr
              simp only [HU6.out, HS6.out, HU7.out, HS7.out, HU8.out, HS8.out])
          have HLN := Lib.hid (rInts_len t s8)
          generalize (rInts t s8).1 = ys at *
          generalize (rInts t s8).2 = sn at *
          have HLAo := Lib.hid (HLA8.out.keep (w' := wo) (fun b hb hl => (HKP.out b (by rw [HAE.out]; exact hl) (by have := HRB.out; have := HN.out; have := HNM.out; have := HMAB.out; omega)).trans ((HG910.out.block b (by have h1 := HMA.out.size; omega) (fun e => by injection e with e; have := HRB.out; have := HN.out; have := HNM.out; have := HMAB.out; omega)).trans (HMA.out.block hl))))
          have HCo := Lib.hid ((HKP.out (N + 1) (by have := HRB.out; have := HN.out; have := HNM.out; have := HMAB.out; omega) (by have := HRB.out; have := HN.out; have := HNM.out; have := HMAB.out; omega)).trans HC10.out)
          have HRRo := Lib.hid (show ∃ z, wo.heap[N]? = some (.cells z 166) ∧ z.size = 4 from by obtain ⟨z, h1, h2⟩ := HRR10.out; exact ⟨z, (HKP.out N (by have := HRB.out; have := HN.out; have := HNM.out; have := HMAB.out; omega) (by have := HRB.out; have := HN.out; have := HNM.out; have := HMAB.out; omega)).trans h1, h2⟩)
          have HP := Lib.hid (show Row (fun b => M ≤ b ∧ (Value.slice oa o.length oc).ownBlock ≠ some b) wo 1 ys.length (.slice va t vc) (flatC nC ys) ∧ NilA (.slice va t vc) from ⟨by
              rw [HLN.out]
              exact (Row.of_owns HO.out).mono (fun b hb => by have h1 : AB + 1 ≤ b := hb; exact ⟨by have := HRB.out; have := HN.out; have := HNM.out; have := HMAB.out; omega, fun e => by have h2 := HOB.out b e; omega⟩) (fun _ _ _ _ h => h), owns_nil HO.out⟩)
          obtain ⟨on, HON⟩ : ∃ on, Hid (o.length = on) := ⟨_, Lib.hid rfl⟩
          have hon := HON.out
          have hol := HOL.out
          have c3 : wo.cell? ⟨N + 1, 3, none⟩ = some (.slice oa on oc) := cell_of_blk HCo.out (by rw [← HON.out]; rfl)
          have hbc := cell_lt c3
          have g0 : wo.cell? ⟨AB, 0, none⟩ = some (.int .i64 u6) := cell_of_blk HC.out rfl
          have g1 : wo.cell? ⟨AB, 1, none⟩ = some (.int .i64 u7) := cell_of_blk HC.out rfl
          have g2 : wo.cell? ⟨AB, 2, none⟩ = some (.slice va t vc) := cell_of_blk HC.out rfl
          have hbg := cell_lt g0
          have HR9 := Lib.hid (room40 (n := on + 1) (by omega))
          clear hon hol
          have HMB := Lib.hid (more_alloc wo (.cells #[.int .i64 u6, .int .i64 u7, .slice va t vc] 177))
          have HLB := Lib.hid (HLAo.out.keep (fun b _ hl => HMB.out.block hl))
          have HCB0 := Lib.hid ((HMB.out.block (blk_lt HCo.out)).trans HCo.out)
          have HSB := Lib.hid (show M ≤ wo.heap.size by have h1 := HMS2.out; have := HRB.out; have := HN.out; have := HNM.out; have := HMAB.out; omega)
          go_wp2_with (at_builtin; refine wpList_append_lies _ rfl _ _ 164 rfl M 177 i1 _ 3 40 Try.underlying164 hi1 hy0 hy1 hy2 rfl (by omega) (.slice oa on oc) on (flatC aC o) rfl (by have h1 := HLB.out.own; rw [HON.out] at h1; exact h1) ⟨wo.heap.size, 0, none⟩ 1 1 [.int .i64 u6, .int .i64 u7, .slice va t vc] rfl rfl (World.news_of_block (cs := #[.int .i64 u6, .int .i64 u7, .slice va t vc]) (t := 177) (fr := (0, 0)) (alloc_last _ _)) (by simp [Value.oneCell']) (by omega) HR9.out.1 HR9.out.2 (by rw [World.size_alloc]; exact Nat.le_succ_of_le HSB.out) (wo.heap.size + 1) (by simp) ?_; intro gg cap8 wB hown8 hgrow8 hat8 _; have HCC := Lib.hid ((hgrow8.block (N + 1) (by rw [World.size_alloc]; have := blk_lt HCo.out; omega) (fun e => by have h1 := (HLB.out.own.lt (N + 1) (by rw [HON.out]; exact e.symm)).1; have := HNM.out; omega)).trans HCB0.out); have dB : wB.cell? ⟨N + 1, 3, none⟩ = some (.slice oa on oc) := cell_of_blk HCC.out (by rw [← HON.out]; rfl); have fB := thaw HCC.out 3; have hbB := cell_lt dB)
          have HPU := Lib.hid (HLB.out.push (p := (.slice va t vc, ⟨(u6 : Nat), (u7 : Nat), ys⟩)) (w' := wB) (v' := .slice (some ⟨gg, 0, none⟩) (on + 1) cap8) ⟨HP.out.1.mono (fun _ h => h) (fun b off x _ hc => HMB.out.cell hc), HP.out.2⟩ (by rw [HON.out]; exact hown8) (by rw [HON.out]; exact hgrow8) (fun z hz => by
              have hzg : gg = z := by injection hz
              subst hzg
              rw [HON.out]
              rcases hat8 with h | h
              · exact Or.inl h
              · exact Or.inr (by rw [h, World.size_alloc]; exact Nat.le_refl _)))
          have HGB := Lib.hid (show ∀ b, b < M → wB.heap[b]? = wo.heap[b]? from fun b hb => (hgrow8.block b (by rw [World.size_alloc]; have := HSB.out; omega) (fun e => by have h1 := (HLB.out.own.lt b (by rw [HON.out]; exact e.symm)).1; omega)).trans (Below.heap_alloc wo _ _ (by have := HSB.out; omega)))
          have HBB := Lib.hid (show Below M wo wB from ((Below.refl M wo).alloc HSB.out _).grown hgrow8 (by rw [World.size_alloc]; have := HSB.out; omega) (fun z hz => (HLB.out.own.lt z (by rw [HON.out]; exact hz)).1))
          have HVF := Lib.hid (show LstA M (wB.setCell ⟨N + 1, 3, none⟩ (.slice (some ⟨gg, 0, none⟩) (on + 1) cap8)) (.slice (some ⟨gg, 0, none⟩) (on + 1) cap8) (o ++ [((.slice va t vc, ⟨(u6 : Nat), (u7 : Nat), ys⟩) : AV)]) from HPU.out.keep (fun b hb _ => Below.heap_setCell _ _ _ _ (show b ≠ N + 1 by have := HNM.out; omega)))
          have HCF := Lib.hid (show (wB.setCell ⟨N + 1, 3, none⟩ (.slice (some ⟨gg, 0, none⟩) (on + 1) cap8)).heap[N + 1]? = some (.cells #[.int .i64 u1, .int .i64 u2, .int .i64 u3, .slice (some ⟨gg, 0, none⟩) (on + 1) cap8] 166) from setCell_heap HCC.out)
          have HGF := Lib.hid (show w.grownBy (wB.setCell ⟨N + 1, 3, none⟩ (.slice (some ⟨gg, 0, none⟩) (on + 1) cap8)) (some rb) from grown_cells (grown_belowR HG.out (HBB.out.mono (by have := HRB.out; have := HN.out; have := HNM.out; have := HMAB.out; omega)) HBB.out.size) (by rw [HN.out]; omega))
          have HDF := Lib.hid (show RdS (wB.setCell ⟨N + 1, 3, none⟩ (.slice (some ⟨gg, 0, none⟩) (on + 1) cap8)) rb sn from HDR.out.keep (fun b hb => (Below.heap_setCell _ _ _ _ (show b ≠ N + 1 by have := HRB.out; have := HN.out; omega)).trans (HGB.out b (by have := HRB.out; have := HN.out; have := HNM.out; have := HMAB.out; omega))))
          have HMF := Lib.hid (show M ≤ (wB.setCell ⟨N + 1, 3, none⟩ (.slice (some ⟨gg, 0, none⟩) (on + 1) cap8)).heap.size from by rw [World.size_setCell]; exact Nat.le_trans HSB.out HBB.out.size)
          have HRF := Lib.hid (show ∃ z, (wB.setCell ⟨N + 1, 3, none⟩ (.slice (some ⟨gg, 0, none⟩) (on + 1) cap8)).heap[N]? = some (.cells z 166) ∧ z.size = 4 from by obtain ⟨z, h1, h2⟩ := HRRo.out; exact ⟨z, (Below.heap_setCell _ _ _ _ (show N ≠ N + 1 by omega)).trans ((HGB.out N (by have := HNM.out; omega)).trans h1), h2⟩)
          clear hown8 hgrow8 hat8 dB fB hbB c3 hbc g0 g1 g2 hbg
          have hmt9 := HMT.out
          go_wp2_with fail
          go_roundw
          case rel => exact ⟨m + 1, o ++ [((.slice va t vc, ⟨(u6 : Nat), (u7 : Nat), ys⟩) : AV)], _, by have := HMT.out; omega, by go_num, Lib.hid (by rw [HNX.out, List.map_append, HOM.out]; rfl), HCF, HVF, Lib.hid (by rw [HNX.out]; exact HDF.out), HGF, HMF, HRF⟩
          case measure => have := HMT.out; simp [intOf]; omega
    · obtain rfl : m = u4 := by omega
      obtain ⟨z, hzz, hz4⟩ := HRR.out
      have HZZ := Lib.hid hzz; clear hzz
      have HONE := Lib.hid (show rHold s = ((⟨(u1 : Nat), (u2 : Nat), (u3 : Nat)⟩, (rArs m s4).1), (rArs m s4).2) from by
        unfold rHold
        simp only [HU1.out, HS1.out, HU2.out, HS2.out, HU3.out, HS3.out, HU4.out, HS4.out])
      have HSM := Lib.hid (rArs_small m s4)
      go_wp2_with (first | (refine wpList_load_row rfl 166 _ rfl (N + 1) rfl 166 #[.int .i64 u1, .int .i64 u2, .int .i64 u3, .slice oa o.length oc] (0, 0) _ HC6.out Try.underlying166 rfl info166s ?_) | (refine wpList_store_row rfl 166 _ _ rfl N #[.int .i64 u1, .int .i64 u2, .int .i64 u3, .slice oa o.length oc] rfl rfl 166 z HZZ.out (by exact info166s) (by rw [hz4]; rfl) (by kernel_rfl) ?_))
      (try simp only [Act.put, List.setIfInBounds_toArray, List.set_cons_zero, List.set_cons_succ])
      go_wp2_with fail
      refine bodyPost_ret (v := .agg #[.int .i64 u1, .int .i64 u2, .int .i64 u3, .slice oa o.length oc]) (results_cell_row Try.results110 _ _ N 166 _ (0, 0) _ rfl (setRow_heap w6 N _ _ 166 (0, 0) HZZ.out) Try.underlying166 rfl info166s) rfl ?_
      rw [HONE.out]
      dsimp only
      refine ⟨⟨(.slice oa o.length oc, ⟨⟨(u1 : Nat), (u2 : Nat), (u3 : Nat)⟩, o⟩), rfl, rfl, HOM.out, ⟨?_, fun q hq => ⟨?_, (HLA.out.arg q hq).2⟩, owns_nil HLA.out.own, ?_, fun q hq => ?_⟩⟩, grown_rowR HG6.out (by rw [HN.out]; exact Nat.le_refl _), HD6.out.keep (fun b hb => setRow_other _ _ _ _ (by have := HRB.out; have := HN.out; omega))⟩
      · exact (Row.of_owns HLA.out.own).mono (fun b hb => by have h1 : M ≤ b := hb; have := HNM.out; show N ≤ b; omega) (fun b off x hb hc => by rw [cell_setRow_other _ _ _ _ (show b ≠ N by have h1 : M ≤ b := hb; have := HNM.out; omega)]; exact hc)
      · exact (HLA.out.arg q hq).1.mono (fun b hb => by have h1 := hb.1; have := HNM.out; show N ≤ b; omega) (fun b off x hb hc => by rw [cell_setRow_other _ _ _ _ (show b ≠ N by have h1 := hb.1; have := HNM.out; omega)]; exact hc)
      · show o.length ≤ maxLen
        rw [HOL.out]; have := HUL4.out; unfold maxLen; omega
      · have h1 : q.2 ∈ o.map (·.2) := List.mem_map.2 ⟨q, hq, rfl⟩
        rw [HOM.out] at h1
        have h2 := HSM.out _ h1
        unfold maxLen; omega
end Go.Proofs.Ytemeppfikpafbaa

