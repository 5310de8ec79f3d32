/- Texts CrdG, laid together. -/
import Derived.Test.YtemeppfikpafbaaGreatDoorBe
import Derived.Test.YtemeppfikpafbaaGreatDoorBs
/- choice.Read (109). -/
namespace Go.Proofs.YtemeppfikpafbaaGreatDoor
open Go.RowKit
/-- A choice may stand behind those that were read. -/
def lastOk (acc : List Cg) (c : Cg) : Bool := match acc.getLast? with | none => true | some y => decide (ltK y.k c.k)
def goodC (acc : List Cg) (q : Cg × RS) : Bool := decide (q.2.2 = 0) && (cgOkb q.1 && lastOk acc q.1)
def rGo : Nat → List Cg → RS → Option (List Cg)
  | 0, acc, s => if rEnd s = 0 then some acc else none
  | n + 1, acc, s => if goodC acc (rOne s) = true then rGo n (acc ++ [(rOne s).1]) (rOne s).2 else none
/-- A set is read. -/
def rSet (l : List Int) : Option (List Cg) := rGo (rUint 96 (l, 0)).1 [] (rUint 96 (l, 0)).2
theorem rInt_64 {s : RS} (h : Byts s.1) : In64 (rInt s).1 ∧ Byts (rInt s).2.1 := by
  unfold rInt
  split
  · split
    · exact ⟨by unfold In64; omega, h⟩
    · rename_i v n hd
      exact ⟨uz_i64 (decU_bound h hd).1, h.drop n⟩
  · exact ⟨by unfold In64; omega, h⟩
theorem rUint_byts {s : RS} (most : Nat) (h : Byts s.1) : Byts (rUint most s).2.1 := by
  unfold rUint
  split
  · split
    · exact h
    · split
      · exact h.drop _
      · exact h
  · exact h
theorem rByte_byts {s : RS} (h : Byts s.1) : 0 ≤ (rByte s).1 ∧ (rByte s).1 ≤ 255 ∧ Byts (rByte s).2.1 := by
  unfold rByte
  split
  · split
    · exact ⟨by show (0 : Int) ≤ 0; omega, by show (0 : Int) ≤ 255; omega, fun b hb => (by cases hb)⟩
    · rename_i b r hs
      have hb : 0 ≤ b ∧ b ≤ 255 := h b (by rw [hs]; simp)
      exact ⟨hb.1, hb.2, fun y hy => h y (by rw [hs]; exact List.mem_cons_of_mem _ hy)⟩
  · exact ⟨by show (0 : Int) ≤ 0; omega, by show (0 : Int) ≤ 255; omega, h⟩
theorem rInts_64 {s : RS} (h : Byts s.1) (n : Nat) : (∀ x ∈ (rInts n s).1, In64 x) ∧ Byts (rInts n s).2.1 := by
  induction n with
  | zero => exact ⟨fun x hx => (by cases hx), h⟩
  | succ n ih =>
    have h2 := rInt_64 ih.2
    refine ⟨fun x hx => ?_, h2.2⟩
    rcases List.mem_append.1 hx with h3 | h3
    · exact ih.1 x h3
    · rw [List.mem_singleton] at h3; subst h3; exact h2.1
theorem rUs_byts {s : RS} (most : Nat) (h : Byts s.1) (n : Nat) : Byts (rUs most n s).2.1 := by
  induction n with
  | zero => exact h
  | succ n ih => exact rUint_byts most ih
theorem rOne_byts {s : RS} (h : Byts s.1) : 0 ≤ (rOne s).1.k.kind ∧ (rOne s).1.k.kind ≤ 255 ∧ (∀ n ∈ (rOne s).1.l, In64 n) ∧ Byts (rOne s).2.1 ∧ (rOne s).1.l.length ≤ 4 := by
  have h1 := rByte_byts h
  have h2 := rUs_byts 65535 h1.2.2 5
  have h3 := rUint_byts 4 h2
  have h4 := rInts_64 h3 (rUint 4 (rUs 65535 5 (rByte s).2).2).1
  exact ⟨h1.1, h1.2.1, h4.1, h4.2, by show (rInts _ _).1.length ≤ 4; rw [rInts_len]; exact rUint_le 4 _⟩
/-- The choices that were read so far, behind the reader in block rb. -/
structure LstR (rb : Nat) (w : World) (v : Value) (l : List GV) : Prop where
  own : w.ownsRow (rb + 1) 58 7 v l.length (flatC gC l)
  ent : ∀ p ∈ l, GArg (fun b => rb < b ∧ v.ownBlock ≠ some b) w p
theorem LstR.keep {rb : Nat} {w w' : World} {v : Value} {l : List GV} (h : LstR rb w v l) (hg : w.grownBy w' (some rb)) : LstR rb w' v l :=
  ⟨owns_keep h.own (fun z hz => hg.block z (h.own.lt z hz).2 (fun e => by injection e with e; have := (h.own.lt z hz).1; omega)), fun p hp => (h.ent p hp).mono (fun _ hb _ => hb) (fun b hb hl => hg.block b hl (fun e => by injection e with e; have := hb.1; omega))⟩
theorem more_grown {w w' : World} (h : More w w') (rb : Nat) : w.grownBy w' (some rb) := ⟨h.os, h.tape, h.output, h.size, fun _k hk _ => h.block hk⟩
theorem LstR.push {rb : Nat} {w w' : World} {v v' : Value} {l : List GV} (h : LstR rb w v l) {p : GV} (hp : GArg (fun b => rb < b ∧ v.ownBlock ≠ some b) w p)
    (hown : w'.ownsRow (rb + 1) 58 7 v' (l.length + 1) (flatC gC l ++ gC p)) (hg : w.grownBy w' v.ownBlock) (hv : ∀ z, v'.ownBlock = some z → v.ownBlock = some z ∨ w.heap.size ≤ z) : LstR rb w' v' (l ++ [p]) := by
  have key : ∀ x : GV, GArg (fun b => rb < b ∧ v.ownBlock ≠ some b) w x → GArg (fun b => rb < b ∧ v'.ownBlock ≠ some b) w' x := fun x hx => hx.mono (fun b hb hl => ⟨hb.1, fun e => by
    rcases hv b e with h1 | h1
    · exact hb.2 h1
    · omega⟩) (fun b hb hl => hg.block b hl (fun e => hb.2 e.symm))
  refine ⟨by rw [List.length_append, List.length_singleton, flatC_push]; exact hown, fun x hx => ?_⟩
  rcases List.mem_append.1 hx with h1 | h1
  · exact key x (h.ent x h1)
  · rw [List.mem_singleton] at h1; subst h1; exact key x hp
theorem lastOk_at {o : List GV} {i : Nat} (h : o.length = i + 1) (hi : i < o.length) (c : Cg) : lastOk (o.map (·.2)) c = decide (cmpK4 o[i].2.k c.k < 0) := by
  unfold lastOk
  rw [List.getLast?_eq_getElem?, List.length_map, h, Nat.add_sub_cancel, List.getElem?_map, List.getElem?_eq_getElem hi]
  exact decide_eq_decide.2 (cmpK4_neg _ _).symm
theorem ascG_push {o : List GV} {p : GV} (h : AscG o) (hl : lastOk (o.map (·.2)) p.2 = true) : AscG (o ++ [p]) := by
  refine List.pairwise_append.2 ⟨h, List.pairwise_singleton _ _, fun x hx y hy => ?_⟩
  rw [List.mem_singleton] at hy
  subst hy
  obtain ⟨i, hi, rfl⟩ := List.getElem_of_mem hx
  have hlast : o.length = (o.length - 1) + 1 := by omega
  rw [lastOk_at hlast (by omega)] at hl
  have h2 : ltK o[o.length - 1].2.k y.2.k := (cmpK4_neg _ _).1 (of_decide_eq_true hl)
  by_cases e : i = o.length - 1
  · subst e; exact h2
  · exact ltK_trans (List.pairwise_iff_getElem.1 h i (o.length - 1) hi (by omega) (by omega)) h2
theorem room72r {n : Nat} (h : n ≤ 1003) : n ≤ maxLen ∧ n * 72 ≤ 140737488355328 := by unfold maxLen; omega
set_option maxRecDepth 100000 in
set_option maxHeartbeats 4000000 in
theorem read109_any (S : Nat → Prop) (l : List Int) (v : Value) (w : World) (hl : l.length ≤ 140737488355328) (hy : Byts l) (h : ByV S w l v) :
    Calls Tryz.prog 35 #[v] w fun e w' => (∃ v' E, e = .returned (.tuple #[.agg #[v'], .int .i64 E]) ∧ ((rSet l = none ∧ E = 6 ∧ v' = .slice none 0 0) ∨ (∃ o : List GV, rSet l = some (o.map (·.2)) ∧ E = 0 ∧ SetAt (fun b => w.heap.size ≤ b) w' v' o ∧ ∀ p ∈ o, ∀ n ∈ p.2.l, In64 n))) ∧ Below w.heap.size w w' := by
  obtain ⟨R, HRR⟩ : ∃ R, Hid (rSet l = R) := ⟨_, Lib.hid rfl⟩
  rw [HRR.out]
  obtain ⟨i0, hi0, hz0, hz1, hz2⟩ := info_parts infoG
  obtain ⟨N, HN⟩ : ∃ N, Hid (N = w.heap.size) := ⟨_, Lib.hid rfl⟩
  have HB0 := Lib.hid (alloc_last w (.cells #[.slice none 0 0] 33))
  have HM1 := Lib.hid (more_alloc w (.cells #[.slice none 0 0] 33))
  have HNR := Lib.hid (newR_any S l v (w.alloc (.cells #[.slice none 0 0] 33)) hl hy (h.below HM1.out.below))
  obtain ⟨va, vcap, rfl, _, _⟩ := h
  have HY := Lib.hid hy; clear hy
  have HSZ := Lib.hid (show w.heap.size < (w.alloc (.cells #[.slice none 0 0] 33)).heap.size from blk_lt HB0.out)
  rw [← HN.out] at HB0 HSZ ⊢
  go_enter Tryz.func35, Tryz.ntmps35
  go_upto_region 1 with (fail)
  rw [← HN.out]
  generalize w.alloc (.cells #[.slice none 0 0] 33) = w1 at *
  go_wp2_with fail
  refine HNR.out.mono ?_
  rintro e w2 ⟨rb, rfl, hm2, hrb, hd2⟩
  have HM2 := Lib.hid (more_trans HM1.out hm2)
  have HB2 := Lib.hid ((hm2.block (blk_lt HB0.out)).trans HB0.out)
  have HNB := Lib.hid (show N < rb from Nat.lt_of_lt_of_le HSZ.out hrb)
  have HD2 := Lib.hid (show RdS w2 rb (l, 0) from hd2)
  clear hm2 hrb hd2
  go_wp2_with fail
  refine (rdUint_any rb (l, 0) 96 w2 (by omega) HD2.out).mono ?_
  rintro e w3 ⟨rfl, hg3, hd3⟩
  have HUL := Lib.hid (rUint_le 96 (l, 0))
  have HYU := Lib.hid (rUint_byts (s := (l, 0)) 96 HY.out)
  have HRG := Lib.hid (show rGo (rUint 96 (l, 0)).1 [] (rUint 96 (l, 0)).2 = R from HRR.out)
  generalize (rUint 96 (l, 0)).1 = cn at *
  generalize (rUint 96 (l, 0)).2 = s0 at *
  have HD3 := Lib.hid hd3
  have HB3 := Lib.hid ((hg3.block N (blk_lt HB2.out) (fun e => by injection e with e; have := HNB.out; omega)).trans HB2.out)
  have HBW := Lib.hid (show Below N w w3 from (show Below N w w2 by rw [HN.out]; exact HM2.out.below).grown hg3 (by rw [HN.out]; exact HM2.out.size) (fun z hz => by injection hz with hz; have := HNB.out; omega))
  clear hg3 hd3
  have hcn := HUL.out
  have hwc : IntKind.i64.wrap (cn : Int) = cn := by rw [IntKind.wrap_i64]; omega
  go_wp2_with fail
  go_loopw [6, 15] (fun u i wr => ∃ (j : Nat) (o : List GV) (s : RS), j ≤ cn ∧ i = .int .i64 j ∧ Hid (o.length = j) ∧ Hid (rGo (cn - j) (o.map (·.2)) s = R) ∧ Hid (LstR rb wr u o) ∧ Hid (RdS wr rb s) ∧ Hid (Byts s.1) ∧ Hid (Below N w wr) ∧ Hid (wr.heap[N]? = some (.cells #[.slice none 0 0] 33)) ∧ Hid ((∀ p ∈ o, CgOk p.2) ∧ AscG o ∧ ∀ p ∈ o, ∀ n ∈ p.2.l, In64 n)) (fun _ i _ => cn - (intOf i).toNat)
  case atStart => exact ⟨0, [], s0, Nat.zero_le _, rfl, Lib.hid rfl, HRG, Lib.hid ⟨World.ownsRow_nil _ _ _ _, fun p hp => (by cases hp)⟩, HD3, HYU, HBW, HB3, Lib.hid ⟨fun p hp => (by cases hp), List.Pairwise.nil, fun p hp => (by cases hp)⟩⟩
  case round =>
    obtain ⟨j, o, s, hj, rfl, HOL, HGO, HLS, HD, HYS, HB, HR0, HOK⟩ := hrel
    obtain ⟨wo, rfl⟩ : ∃ wo : World, wo = wr := ⟨_, rfl⟩
    obtain ⟨oa, oc, rfl, _⟩ := owns_shape HLS.out.own
    have hcn := HUL.out
    by_cases hlt : j < cn
    · have HLT := Lib.hid hlt
      obtain ⟨k, hk⟩ : ∃ k, cn - j = k + 1 := ⟨cn - j - 1, by omega⟩
      have HGK := Lib.hid (show (if goodC (o.map (·.2)) (rOne s) = true then rGo k (o.map (·.2) ++ [(rOne s).1]) (rOne s).2 else none) = R from by have h1 := HGO.out; rw [hk] at h1; exact h1)
      have HKE := Lib.hid (show cn - (j + 1) = k by omega)
      clear hk
      have HC159 := Lib.hid (readOne159_any rb s wo HD.out)
      have HBY := Lib.hid (rOne_byts HYS.out)
      have HLO := Lib.hid (show j < 97 by omega)
      go_wp2_with fail
      refine HC159.out.mono ?_
      rintro e w5 ⟨⟨xv, rfl, harg, xa, xc, hxv⟩, hg, hd⟩
      obtain ⟨c, HCE⟩ : ∃ c, Hid ((rOne s).1 = c) := ⟨_, Lib.hid rfl⟩
      obtain ⟨s2, HS2⟩ : ∃ s2, Hid ((rOne s).2 = s2) := ⟨_, Lib.hid rfl⟩
      have HGQ := Lib.hid (show (if goodC (o.map (·.2)) (c, s2) = true then rGo k (o.map (·.2) ++ [c]) s2 else none) = R from by rw [← HCE.out, ← HS2.out]; exact HGK.out)
      rw [HCE.out] at harg hxv HBY
      rw [HS2.out] at hd HBY
      rw [HCE.out]
      have HARG := Lib.hid harg
      have HLS5 := Lib.hid (HLS.out.keep hg)
      have HD5 := Lib.hid hd
      have HR5 := Lib.hid ((hg.block N (blk_lt HR0.out) (fun e => by injection e with e; have := HNB.out; omega)).trans HR0.out)
      have HB5 := Lib.hid (HB.out.grown hg (by have := blk_lt HR0.out; omega) (fun z hz => by injection hz with hz; have := HNB.out; omega))
      have HWS := Lib.hid (show wo.heap.size ≤ w5.heap.size from hg.size)
      have HRL := Lib.hid (show rb < wo.heap.size from HD.out.lt)
      have HOW := Lib.hid (fun z hz => (HLS.out.own.lt z hz).2)
      clear harg hg hd HC159
      subst hxv
      obtain ⟨⟨kd, ka, kb, kn⟩, t, d, al⟩ := c
      unfold gA
      dsimp only
      obtain ⟨an, HAN⟩ : ∃ an, Hid (al.length = an) := ⟨_, Lib.hid rfl⟩
      skip
      have HXB := Lib.hid (alloc_last w5 (.cells #[.int .u8 kd, .int .i64 ka, .int .i64 kb, .int .i64 kn, .int .i64 t, .int .i64 d, .slice xa al.length xc] 58))
      have HMO := Lib.hid (more_alloc w5 (.cells #[.int .u8 kd, .int .i64 ka, .int .i64 kb, .int .i64 kn, .int .i64 t, .int .i64 d, .slice xa al.length xc] 58))
      go_upto_region 8 with (fail)
      generalize w5.alloc (.cells #[.int .u8 kd, .int .i64 ka, .int .i64 kb, .int .i64 kn, .int .i64 t, .int .i64 d, .slice xa al.length xc] 58) = w6 at *
      obtain ⟨XB, HXE⟩ : ∃ XB, Hid (XB = w5.heap.size) := ⟨_, Lib.hid rfl⟩
      rw [← HXE.out] at HXB ⊢
      have HLS6 := Lib.hid (HLS5.out.keep (more_grown HMO.out rb))
      have HD6 := Lib.hid (HD5.out.more HMO.out)
      obtain ⟨e2, HE2⟩ : ∃ e2, Hid (s2.2 = e2) := ⟨_, Lib.hid rfl⟩
      have HC160 := Lib.hid (fun W (hW : More w6 W) => rErr_any rb s2.1 s2.2 W (HD6.out.more hW))
      rw [HE2.out] at HC160
      have HC99 := Lib.hid (show ∀ W, Calls Tryz.prog 43 #[.agg #[.int .u8 kd, .int .i64 ka, .int .i64 kb, .int .i64 kn, .int .i64 t, .int .i64 d, .slice xa al.length xc]] W fun e w' => e = .returned (.int .i64 (if cgOkb ⟨⟨kd, ka, kb, kn⟩, t, d, al⟩ then 0 else 1)) ∧ Lay W w' from fun W => check99_gen (.slice xa al.length xc, ⟨⟨kd, ka, kb, kn⟩, t, d, al⟩) W HBY.out.1 HBY.out.2.1 ⟨xa, xc, rfl⟩ (by have := HBY.out.2.2.2.2; unfold maxLen; dsimp only at this ⊢; omega))
      obtain ⟨bad, HBAD⟩ : ∃ bad, Hid (Bool.not (goodC (o.map (·.2)) (⟨⟨kd, ka, kb, kn⟩, t, d, al⟩, s2)) = bad) := ⟨_, Lib.hid rfl⟩
      have x0 : w6.cell? ⟨XB, 0, none⟩ = some (.int .u8 kd) := cell_of_blk HXB.out rfl
      have x1 : w6.cell? ⟨XB, 1, none⟩ = some (.int .i64 ka) := cell_of_blk HXB.out rfl
      have x2 : w6.cell? ⟨XB, 2, none⟩ = some (.int .i64 kb) := cell_of_blk HXB.out rfl
      have x3 : w6.cell? ⟨XB, 3, none⟩ = some (.int .i64 kn) := cell_of_blk HXB.out rfl
      have x4 : w6.cell? ⟨XB, 4, none⟩ = some (.int .i64 t) := cell_of_blk HXB.out rfl
      have x5 : w6.cell? ⟨XB, 5, none⟩ = some (.int .i64 d) := cell_of_blk HXB.out rfl
      have x6 : w6.cell? ⟨XB, 6, none⟩ = some (.slice xa al.length xc) := cell_of_blk HXB.out rfl
      have hbx := cell_lt x0
      have HL := Lib.hid (more_drew w6)
      have HK := Lib.hid (show ∀ W, More w6 W → (W.cell? ⟨XB, 0, none⟩ = some (.int .u8 kd) ∧ W.cell? ⟨XB, 1, none⟩ = some (.int .i64 ka) ∧ W.cell? ⟨XB, 2, none⟩ = some (.int .i64 kb) ∧ W.cell? ⟨XB, 3, none⟩ = some (.int .i64 kn) ∧ W.cell? ⟨XB, 4, none⟩ = some (.int .i64 t) ∧ W.cell? ⟨XB, 5, none⟩ = some (.int .i64 d) ∧ W.cell? ⟨XB, 6, none⟩ = some (.slice xa al.length xc)) from fun W h => ⟨h.cell x0, h.cell x1, h.cell x2, h.cell x3, h.cell x4, h.cell x5, h.cell x6⟩)
      go_cut [43] (fun q wx => q = .bool bad ∧ Hid (More w6 wx))
      case first =>
        by_cases he : e2 = 0
        · subst he
          by_cases hck : cgOkb ⟨⟨kd, ka, kb, kn⟩, t, d, al⟩ = true
          · have HCK := Lib.hid (show (if cgOkb ⟨⟨kd, ka, kb, kn⟩, t, d, al⟩ then (0 : Int) else 1) = 0 by rw [if_pos hck])
            have HCT := Lib.hid hck; clear hck
            by_cases hj0 : j = 0
            · subst hj0
              have HBT := Lib.hid (show bad = false from by
                rw [← HBAD.out]
                have ho : o = [] := List.length_eq_zero_iff.1 HOL.out
                subst ho
                simp [goodC, lastOk, HE2.out, HCT.out])
              refine wp_region_held_drew (S := fun W => W.cell? ⟨XB, 0, none⟩ = some (.int .u8 kd) ∧ W.cell? ⟨XB, 1, none⟩ = some (.int .i64 ka) ∧ W.cell? ⟨XB, 2, none⟩ = some (.int .i64 kb) ∧ W.cell? ⟨XB, 3, none⟩ = some (.int .i64 kn) ∧ W.cell? ⟨XB, 4, none⟩ = some (.int .i64 t) ∧ W.cell? ⟨XB, 5, none⟩ = some (.int .i64 d) ∧ W.cell? ⟨XB, 6, none⟩ = some (.slice xa al.length xc)) (by kernel_rfl) (HK.out _ HL.out) (fun hHeld => ?_)
              refine wpAnyH_take (i := 0) (v := ?_) (by simp only [List.getElem?_toArray, List.getElem?_cons_zero]; exact rfl) (by kernel_rfl) (by kernel_rfl) (by kernel_rfl) (by exact fun _ _ _ h => h) (Or.inl ⟨by kernel_rfl, ?_⟩) hHeld ?_
              rotate_left
              · intro w hSw
                (try dsimp only at hSw)
                first | (go_simp; done) | (go_simp; with_reducible rfl)
              (try simp only [Act.put, List.setIfInBounds_toArray, List.set_cons_zero, List.set_cons_succ])
              refine wpAnyH_ready (rs := [1]) (by kernel_rfl) (by simp) ?_
              refine AllReadyH.cons (by simp only [List.getElem?_toArray, List.getElem?_cons_succ, List.getElem?_cons_zero]; exact rfl) (fun K hK => ?_) AllReadyH.nil
              rw [if_pos (by kernel_rfl)]
              go_simp
              refine (HC160.out _ HL.out).mono ?_
              rintro e w9 ⟨rfl, hw9⟩
              have HL := Lib.hid (show More w6 w9 from by rw [hw9]; exact HL.out)
              have K9 := HK.out _ HL.out
              clear hw9
              try go_wp2_with fail
              refine hK.out _ _ K9 (fun hHeld => ?_)
              clear hK K
              (try simp only [Act.put, List.setIfInBounds_toArray, List.set_cons_zero, List.set_cons_succ])
              refine wpAnyH_take (i := 2) (v := ?_) (by simp only [List.getElem?_toArray, List.getElem?_cons_succ, List.getElem?_cons_zero]; exact rfl) (by kernel_rfl) (by kernel_rfl) (by kernel_rfl) (by exact fun _ _ _ h => h) (Or.inl ⟨by kernel_rfl, ?_⟩) hHeld ?_
              rotate_left
              · intro w hSw
                (try dsimp only at hSw)
                first | (go_simp; done) | (go_simp; with_reducible rfl)
              (try simp only [Act.put, List.setIfInBounds_toArray, List.set_cons_zero, List.set_cons_succ])
              refine wpAnyH_take (i := 3) (v := ?_) (by simp only [List.getElem?_toArray, List.getElem?_cons_succ, List.getElem?_cons_zero]; exact rfl) (by kernel_rfl) (by kernel_rfl) (by kernel_rfl) (by exact fun _ _ _ h => h) (Or.inl ⟨by kernel_rfl, ?_⟩) hHeld ?_
              rotate_left
              · intro w hSw
                (try dsimp only at hSw)
                first | (go_simp; done) | (go_simp; with_reducible rfl)
              (try simp only [Act.put, List.setIfInBounds_toArray, List.set_cons_zero, List.set_cons_succ])
              refine wpAnyH_take (i := 4) (v := ?_) (by simp only [List.getElem?_toArray, List.getElem?_cons_succ, List.getElem?_cons_zero]; exact rfl) (by kernel_rfl) (by kernel_rfl) (by kernel_rfl) (by exact fun _ _ _ h => h) (Or.inl ⟨by kernel_rfl, ?_⟩) hHeld ?_
              rotate_left
              · intro w hSw
                (try dsimp only at hSw)
                first | (go_simp; done) | (go_simp; with_reducible rfl)
              (try simp only [Act.put, List.setIfInBounds_toArray, List.set_cons_zero, List.set_cons_succ])
              refine wpAnyH_ready (rs := [5]) (by kernel_rfl) (by simp) ?_
              refine AllReadyH.cons (by simp only [List.getElem?_toArray, List.getElem?_cons_succ, List.getElem?_cons_zero]; exact rfl) (fun K hK => ?_) AllReadyH.nil
              rw [if_pos (by kernel_rfl)]
              go_simp
              refine (HC99.out _).mono ?_
              rw [HCK.out]
              rintro e w10 ⟨rfl, hl9⟩
              have HL := Lib.hid (more_trans HL.out hl9.1)
              have K9 := HK.out _ HL.out
              clear hl9
              try go_wp2_with fail
              refine hK.out _ _ K9 (fun hHeld => ?_)
              clear hK K
              (try simp only [Act.put, List.setIfInBounds_toArray, List.set_cons_zero, List.set_cons_succ])
              refine wpAnyH_take (i := 6) (v := ?_) (by simp only [List.getElem?_toArray, List.getElem?_cons_succ, List.getElem?_cons_zero]; exact rfl) (by kernel_rfl) (by kernel_rfl) (by kernel_rfl) (by exact fun _ _ _ h => h) (Or.inl ⟨by kernel_rfl, ?_⟩) hHeld ?_
              rotate_left
              · intro w hSw
                (try dsimp only at hSw)
                first | (go_simp; done) | (go_simp; with_reducible rfl)
              (try simp only [Act.put, List.setIfInBounds_toArray, List.set_cons_zero, List.set_cons_succ])
              refine wpAnyH_take (i := 7) (v := ?_) (by simp only [List.getElem?_toArray, List.getElem?_cons_succ, List.getElem?_cons_zero]; exact rfl) (by kernel_rfl) (by kernel_rfl) (by kernel_rfl) (by exact fun _ _ _ h => h) (Or.inl ⟨by kernel_rfl, ?_⟩) hHeld ?_
              rotate_left
              · intro w hSw
                (try dsimp only at hSw)
                first | (go_simp; done) | (go_simp; with_reducible rfl)
              (try simp only [Act.put, List.setIfInBounds_toArray, List.set_cons_zero, List.set_cons_succ])
              refine wpAnyH_take (i := 8) (v := ?_) (by simp only [List.getElem?_toArray, List.getElem?_cons_succ, List.getElem?_cons_zero]; exact rfl) (by kernel_rfl) (by kernel_rfl) (by kernel_rfl) (by exact fun _ _ _ h => h) (Or.inl ⟨by kernel_rfl, ?_⟩) hHeld ?_
              rotate_left
              · intro w hSw
                (try dsimp only at hSw)
                first | (go_simp; done) | (go_simp; with_reducible rfl)
              (try simp only [Act.put, List.setIfInBounds_toArray, List.set_cons_zero, List.set_cons_succ])
              refine wpAnyH_take (i := 9) (v := ?_) (by simp only [List.getElem?_toArray, List.getElem?_cons_succ, List.getElem?_cons_zero]; exact rfl) (by kernel_rfl) (by kernel_rfl) (by kernel_rfl) (by exact fun _ _ _ h => h) (Or.inl ⟨by kernel_rfl, ?_⟩) hHeld ?_
              rotate_left
              · intro w hSw
                (try dsimp only at hSw)
                first | (go_simp; done) | (go_simp; with_reducible rfl)
              (try simp only [Act.put, List.setIfInBounds_toArray, List.set_cons_zero, List.set_cons_succ])
              refine wpAnyH_take (i := 10) (v := ?_) (by simp only [List.getElem?_toArray, List.getElem?_cons_succ, List.getElem?_cons_zero]; exact rfl) (by kernel_rfl) (by kernel_rfl) (by kernel_rfl) (by exact fun _ _ _ h => h) (Or.inl ⟨by kernel_rfl, ?_⟩) hHeld ?_
              rotate_left
              · intro w hSw
                (try dsimp only at hSw)
                first | (go_simp; done) | (go_simp; with_reducible rfl)
              (try simp only [Act.put, List.setIfInBounds_toArray, List.set_cons_zero, List.set_cons_succ])
              refine wpAnyH_take (i := 11) (v := ?_) (by simp only [List.getElem?_toArray, List.getElem?_cons_succ, List.getElem?_cons_zero]; exact rfl) (by kernel_rfl) (by kernel_rfl) (by kernel_rfl) (by exact fun _ _ _ h => h) (Or.inl ⟨by kernel_rfl, ?_⟩) hHeld ?_
              rotate_left
              · intro w hSw
                (try dsimp only at hSw)
                first | (go_simp; done) | (go_simp; with_reducible rfl)
              (try simp only [Act.put, List.setIfInBounds_toArray, List.set_cons_zero, List.set_cons_succ])
              refine wpAnyH_take (i := 12) (v := undef) (by simp only [List.getElem?_toArray, List.getElem?_cons_succ, List.getElem?_cons_zero]; exact rfl) (by kernel_rfl) (by kernel_rfl) (by kernel_rfl) (by exact fun _ _ _ h => h) (Or.inr ⟨by kernel_rfl, by rfl⟩) hHeld ?_
              refine wpAnyH_take (i := 13) (v := undef) (by simp only [List.getElem?_toArray, List.getElem?_cons_succ, List.getElem?_cons_zero]; exact rfl) (by kernel_rfl) (by kernel_rfl) (by kernel_rfl) (by exact fun _ _ _ h => h) (Or.inr ⟨by kernel_rfl, by rfl⟩) hHeld ?_
              refine wpAnyH_take (i := 14) (v := undef) (by simp only [List.getElem?_toArray, List.getElem?_cons_succ, List.getElem?_cons_zero]; exact rfl) (by kernel_rfl) (by kernel_rfl) (by kernel_rfl) (by exact fun _ _ _ h => h) (Or.inr ⟨by kernel_rfl, by rfl⟩) hHeld ?_
              refine wpAnyH_take (i := 15) (v := undef) (by simp only [List.getElem?_toArray, List.getElem?_cons_succ, List.getElem?_cons_zero]; exact rfl) (by kernel_rfl) (by kernel_rfl) (by kernel_rfl) (by exact fun _ _ _ h => h) (Or.inr ⟨by kernel_rfl, by rfl⟩) hHeld ?_
              refine wpAnyH_take (i := 16) (v := undef) (by simp only [List.getElem?_toArray, List.getElem?_cons_succ, List.getElem?_cons_zero]; exact rfl) (by kernel_rfl) (by kernel_rfl) (by kernel_rfl) (by exact fun _ _ _ h => h) (Or.inr ⟨by kernel_rfl, by rfl⟩) hHeld ?_
              refine wpAnyH_take (i := 17) (v := undef) (by simp only [List.getElem?_toArray, List.getElem?_cons_succ, List.getElem?_cons_zero]; exact rfl) (by kernel_rfl) (by kernel_rfl) (by kernel_rfl) (by exact fun _ _ _ h => h) (Or.inr ⟨by kernel_rfl, by rfl⟩) hHeld ?_
              refine wpAnyH_take (i := 18) (v := undef) (by simp only [List.getElem?_toArray, List.getElem?_cons_succ, List.getElem?_cons_zero]; exact rfl) (by kernel_rfl) (by kernel_rfl) (by kernel_rfl) (by exact fun _ _ _ h => h) (Or.inr ⟨by kernel_rfl, by rfl⟩) hHeld ?_
              refine wpAnyH_take (i := 19) (v := undef) (by simp only [List.getElem?_toArray, List.getElem?_cons_succ, List.getElem?_cons_zero]; exact rfl) (by kernel_rfl) (by kernel_rfl) (by kernel_rfl) (by exact fun _ _ _ h => h) (Or.inr ⟨by kernel_rfl, by rfl⟩) hHeld ?_
              refine wpAnyH_take (i := 20) (v := undef) (by simp only [List.getElem?_toArray, List.getElem?_cons_succ, List.getElem?_cons_zero]; exact rfl) (by kernel_rfl) (by kernel_rfl) (by kernel_rfl) (by exact fun _ _ _ h => h) (Or.inr ⟨by kernel_rfl, by rfl⟩) hHeld ?_
              refine wpAnyH_take (i := 21) (v := undef) (by simp only [List.getElem?_toArray, List.getElem?_cons_succ, List.getElem?_cons_zero]; exact rfl) (by kernel_rfl) (by kernel_rfl) (by kernel_rfl) (by exact fun _ _ _ h => h) (Or.inr ⟨by kernel_rfl, by rfl⟩) hHeld ?_
              (try simp only [Act.put, List.setIfInBounds_toArray, List.set_cons_zero, List.set_cons_succ])
              refine wpAnyH_take (i := 22) (v := ?_) (by simp only [List.getElem?_toArray, List.getElem?_cons_succ, List.getElem?_cons_zero]; exact rfl) (by kernel_rfl) (by kernel_rfl) (by kernel_rfl) (by exact fun _ _ _ h => h) (Or.inl ⟨by kernel_rfl, ?_⟩) hHeld ?_
              rotate_left
              · intro w hSw
                (try dsimp only at hSw)
                first | (go_simp; done) | (go_simp; with_reducible rfl)
              (try simp only [Act.put, List.setIfInBounds_toArray, List.set_cons_zero, List.set_cons_succ])
              refine wpAnyH_take (i := 23) (v := ?_) (by simp only [List.getElem?_toArray, List.getElem?_cons_succ, List.getElem?_cons_zero]; exact rfl) (by kernel_rfl) (by kernel_rfl) (by kernel_rfl) (by exact fun _ _ _ h => h) (Or.inl ⟨by kernel_rfl, ?_⟩) hHeld ?_
              rotate_left
              · intro w hSw
                (try dsimp only at hSw)
                first | (go_simp; done) | (go_simp; with_reducible rfl)
              (try simp only [Act.put, List.setIfInBounds_toArray, List.set_cons_zero, List.set_cons_succ])
              refine wpAnyH_done (by kernel_rfl) ?_ _
              go_wp2_with fail
              go_meet
              case rel => exact ⟨by rw [HBT.out], HL⟩
            · obtain ⟨i9, rfl⟩ : ∃ i9, j = i9 + 1 := ⟨j - 1, by omega⟩
              have hol := HOL.out
              have hil0 : i9 < o.length := by omega
              have HLK := Lib.hid (lastOk_at hol hil0 ⟨⟨kd, ka, kb, kn⟩, t, d, al⟩)
              obtain ⟨ob, oo, rfl, _, hc⟩ := (Row.of_owns HLS6.out.own).atC gC_len hil0
              have y0 := hc 0 (.int .u8 o[i9].2.k.kind) rfl
              have y1 := hc 1 (.int .i64 o[i9].2.k.a) rfl
              have y2 := hc 2 (.int .i64 o[i9].2.k.b) rfl
              have y3 := hc 3 (.int .i64 o[i9].2.k.n) rfl
              rw [Nat.add_zero] at y0
              clear hc
              generalize o[i9].2.k = y at *
              dsimp only at HLK
              obtain ⟨q, HQ⟩ : ∃ q, Hid (decide (cmpK4 y ⟨kd, ka, kb, kn⟩ < 0) = q) := ⟨_, Lib.hid rfl⟩
              have HC32 := Lib.hid (fun W => lessK_any y ⟨kd, ka, kb, kn⟩ W)
              unfold kA at HC32
              rw [HQ.out] at HC32
              have HBT := Lib.hid (show bad = !q from by
                rw [← HBAD.out, ← HQ.out]
                simp [goodC, HE2.out, HCT.out, HLK.out])
              have hwi : IntKind.i64.wrap (i9 : Int) = i9 := by rw [IntKind.wrap_i64]; omega
              have hil : (i9 : Int) < o.length := by omega
              have hby := cell_lt y0
              clear hj0 hil0 hol
              have HK2 := Lib.hid (show ∀ W, More w6 W → (W.cell? ⟨XB, 0, none⟩ = some (.int .u8 kd) ∧ W.cell? ⟨XB, 1, none⟩ = some (.int .i64 ka) ∧ W.cell? ⟨XB, 2, none⟩ = some (.int .i64 kb) ∧ W.cell? ⟨XB, 3, none⟩ = some (.int .i64 kn) ∧ W.cell? ⟨XB, 4, none⟩ = some (.int .i64 t) ∧ W.cell? ⟨XB, 5, none⟩ = some (.int .i64 d) ∧ W.cell? ⟨XB, 6, none⟩ = some (.slice xa al.length xc) ∧ W.cell? ⟨ob, oo + i9 * 7, none⟩ = some (.int .u8 y.kind) ∧ W.cell? ⟨ob, oo + i9 * 7 + 1, none⟩ = some (.int .i64 y.a) ∧ W.cell? ⟨ob, oo + i9 * 7 + 2, none⟩ = some (.int .i64 y.b) ∧ W.cell? ⟨ob, oo + i9 * 7 + 3, none⟩ = some (.int .i64 y.n)) from fun W h => ⟨h.cell x0, h.cell x1, h.cell x2, h.cell x3, h.cell x4, h.cell x5, h.cell x6, h.cell y0, h.cell y1, h.cell y2, h.cell y3⟩)
              skip
              refine wp_region_held_drew (S := fun W => W.cell? ⟨XB, 0, none⟩ = some (.int .u8 kd) ∧ W.cell? ⟨XB, 1, none⟩ = some (.int .i64 ka) ∧ W.cell? ⟨XB, 2, none⟩ = some (.int .i64 kb) ∧ W.cell? ⟨XB, 3, none⟩ = some (.int .i64 kn) ∧ W.cell? ⟨XB, 4, none⟩ = some (.int .i64 t) ∧ W.cell? ⟨XB, 5, none⟩ = some (.int .i64 d) ∧ W.cell? ⟨XB, 6, none⟩ = some (.slice xa al.length xc) ∧ W.cell? ⟨ob, oo + i9 * 7, none⟩ = some (.int .u8 y.kind) ∧ W.cell? ⟨ob, oo + i9 * 7 + 1, none⟩ = some (.int .i64 y.a) ∧ W.cell? ⟨ob, oo + i9 * 7 + 2, none⟩ = some (.int .i64 y.b) ∧ W.cell? ⟨ob, oo + i9 * 7 + 3, none⟩ = some (.int .i64 y.n)) (by kernel_rfl) (HK2.out _ HL.out) (fun hHeld => ?_)
              refine wpAnyH_take (i := 0) (v := ?_) (by simp only [List.getElem?_toArray, List.getElem?_cons_zero]; exact rfl) (by kernel_rfl) (by kernel_rfl) (by kernel_rfl) (by exact fun _ _ _ h => h) (Or.inl ⟨by kernel_rfl, ?_⟩) hHeld ?_
              rotate_left
              · intro w hSw
                (try dsimp only at hSw)
                first | (go_simp; done) | (go_simp; with_reducible rfl)
              (try simp only [Act.put, List.setIfInBounds_toArray, List.set_cons_zero, List.set_cons_succ])
              refine wpAnyH_ready (rs := [1]) (by kernel_rfl) (by simp) ?_
              refine AllReadyH.cons (by simp only [List.getElem?_toArray, List.getElem?_cons_succ, List.getElem?_cons_zero]; exact rfl) (fun K hK => ?_) AllReadyH.nil
              rw [if_pos (by kernel_rfl)]
              go_simp
              refine (HC160.out _ HL.out).mono ?_
              rintro e w9 ⟨rfl, hw9⟩
              have HL := Lib.hid (show More w6 w9 from by rw [hw9]; exact HL.out)
              have K9 := HK2.out _ HL.out
              clear hw9
              try go_wp2_with fail
              refine hK.out _ _ K9 (fun hHeld => ?_)
              clear hK K
              (try simp only [Act.put, List.setIfInBounds_toArray, List.set_cons_zero, List.set_cons_succ])
              refine wpAnyH_take (i := 2) (v := ?_) (by simp only [List.getElem?_toArray, List.getElem?_cons_succ, List.getElem?_cons_zero]; exact rfl) (by kernel_rfl) (by kernel_rfl) (by kernel_rfl) (by exact fun _ _ _ h => h) (Or.inl ⟨by kernel_rfl, ?_⟩) hHeld ?_
              rotate_left
              · intro w hSw
                (try dsimp only at hSw)
                first | (go_simp; done) | (go_simp; with_reducible rfl)
              (try simp only [Act.put, List.setIfInBounds_toArray, List.set_cons_zero, List.set_cons_succ])
              refine wpAnyH_take (i := 3) (v := ?_) (by simp only [List.getElem?_toArray, List.getElem?_cons_succ, List.getElem?_cons_zero]; exact rfl) (by kernel_rfl) (by kernel_rfl) (by kernel_rfl) (by exact fun _ _ _ h => h) (Or.inl ⟨by kernel_rfl, ?_⟩) hHeld ?_
              rotate_left
              · intro w hSw
                (try dsimp only at hSw)
                first | (go_simp; done) | (go_simp; with_reducible rfl)
              (try simp only [Act.put, List.setIfInBounds_toArray, List.set_cons_zero, List.set_cons_succ])
              refine wpAnyH_take (i := 4) (v := ?_) (by simp only [List.getElem?_toArray, List.getElem?_cons_succ, List.getElem?_cons_zero]; exact rfl) (by kernel_rfl) (by kernel_rfl) (by kernel_rfl) (by exact fun _ _ _ h => h) (Or.inl ⟨by kernel_rfl, ?_⟩) hHeld ?_
              rotate_left
              · intro w hSw
                (try dsimp only at hSw)
                first | (go_simp; done) | (go_simp; with_reducible rfl)
              (try simp only [Act.put, List.setIfInBounds_toArray, List.set_cons_zero, List.set_cons_succ])
              refine wpAnyH_ready (rs := [5]) (by kernel_rfl) (by simp) ?_
              refine AllReadyH.cons (by simp only [List.getElem?_toArray, List.getElem?_cons_succ, List.getElem?_cons_zero]; exact rfl) (fun K hK => ?_) AllReadyH.nil
              rw [if_pos (by kernel_rfl)]
              go_simp
              refine (HC99.out _).mono ?_
              rw [HCK.out]
              rintro e w10 ⟨rfl, hl9⟩
              have HL := Lib.hid (more_trans HL.out hl9.1)
              have K9 := HK2.out _ HL.out
              clear hl9
              try go_wp2_with fail
              refine hK.out _ _ K9 (fun hHeld => ?_)
              clear hK K
              (try simp only [Act.put, List.setIfInBounds_toArray, List.set_cons_zero, List.set_cons_succ])
              refine wpAnyH_take (i := 6) (v := ?_) (by simp only [List.getElem?_toArray, List.getElem?_cons_succ, List.getElem?_cons_zero]; exact rfl) (by kernel_rfl) (by kernel_rfl) (by kernel_rfl) (by exact fun _ _ _ h => h) (Or.inl ⟨by kernel_rfl, ?_⟩) hHeld ?_
              rotate_left
              · intro w hSw
                (try dsimp only at hSw)
                first | (go_simp; done) | (go_simp; with_reducible rfl)
              (try simp only [Act.put, List.setIfInBounds_toArray, List.set_cons_zero, List.set_cons_succ])
              refine wpAnyH_take (i := 7) (v := ?_) (by simp only [List.getElem?_toArray, List.getElem?_cons_succ, List.getElem?_cons_zero]; exact rfl) (by kernel_rfl) (by kernel_rfl) (by kernel_rfl) (by exact fun _ _ _ h => h) (Or.inl ⟨by kernel_rfl, ?_⟩) hHeld ?_
              rotate_left
              · intro w hSw
                (try dsimp only at hSw)
                first | (go_simp; done) | (go_simp; with_reducible rfl)
              (try simp only [Act.put, List.setIfInBounds_toArray, List.set_cons_zero, List.set_cons_succ])
              refine wpAnyH_take (i := 8) (v := ?_) (by simp only [List.getElem?_toArray, List.getElem?_cons_succ, List.getElem?_cons_zero]; exact rfl) (by kernel_rfl) (by kernel_rfl) (by kernel_rfl) (by exact fun _ _ _ h => h) (Or.inl ⟨by kernel_rfl, ?_⟩) hHeld ?_
              rotate_left
              · intro w hSw
                (try dsimp only at hSw)
                first | (go_simp; done) | (go_simp; with_reducible rfl)
              (try simp only [Act.put, List.setIfInBounds_toArray, List.set_cons_zero, List.set_cons_succ])
              refine wpAnyH_take (i := 9) (v := ?_) (by simp only [List.getElem?_toArray, List.getElem?_cons_succ, List.getElem?_cons_zero]; exact rfl) (by kernel_rfl) (by kernel_rfl) (by kernel_rfl) (by exact fun _ _ _ h => h) (Or.inl ⟨by kernel_rfl, ?_⟩) hHeld ?_
              rotate_left
              · intro w hSw
                (try dsimp only at hSw)
                first | (go_simp; done) | (go_simp; with_reducible rfl)
              (try simp only [Act.put, List.setIfInBounds_toArray, List.set_cons_zero, List.set_cons_succ])
              refine wpAnyH_take (i := 10) (v := ?_) (by simp only [List.getElem?_toArray, List.getElem?_cons_succ, List.getElem?_cons_zero]; exact rfl) (by kernel_rfl) (by kernel_rfl) (by kernel_rfl) (by exact fun _ _ _ h => h) (Or.inl ⟨by kernel_rfl, ?_⟩) hHeld ?_
              rotate_left
              · intro w hSw
                (try dsimp only at hSw)
                first | (go_simp; done) | (go_simp; with_reducible rfl)
              (try simp only [Act.put, List.setIfInBounds_toArray, List.set_cons_zero, List.set_cons_succ])
              refine wpAnyH_take (i := 11) (v := ?_) (by simp only [List.getElem?_toArray, List.getElem?_cons_succ, List.getElem?_cons_zero]; exact rfl) (by kernel_rfl) (by kernel_rfl) (by kernel_rfl) (by exact fun _ _ _ h => h) (Or.inl ⟨by kernel_rfl, ?_⟩) hHeld ?_
              rotate_left
              · intro w hSw
                (try dsimp only at hSw)
                first | (go_simp; done) | (go_simp; with_reducible rfl)
              (try simp only [Act.put, List.setIfInBounds_toArray, List.set_cons_zero, List.set_cons_succ])
              refine wpAnyH_take (i := 12) (v := ?_) (by simp only [List.getElem?_toArray, List.getElem?_cons_succ, List.getElem?_cons_zero]; exact rfl) (by kernel_rfl) (by kernel_rfl) (by kernel_rfl) (by exact fun _ _ _ h => h) (Or.inl ⟨by kernel_rfl, ?_⟩) hHeld ?_
              rotate_left
              · intro w hSw
                (try dsimp only at hSw)
                first | (go_simp; done) | (go_simp; with_reducible rfl)
              (try simp only [Act.put, List.setIfInBounds_toArray, List.set_cons_zero, List.set_cons_succ])
              refine wpAnyH_take (i := 13) (v := ?_) (by simp only [List.getElem?_toArray, List.getElem?_cons_succ, List.getElem?_cons_zero]; exact rfl) (by kernel_rfl) (by kernel_rfl) (by kernel_rfl) (by exact fun _ _ _ h => h) (Or.inl ⟨by kernel_rfl, ?_⟩) hHeld ?_
              rotate_left
              · intro w hSw
                (try dsimp only at hSw)
                first | (go_simp; done) | (go_simp; with_reducible rfl)
              (try simp only [Act.put, List.setIfInBounds_toArray, List.set_cons_zero, List.set_cons_succ])
              refine wpAnyH_take (i := 14) (v := ?_) (by simp only [List.getElem?_toArray, List.getElem?_cons_succ, List.getElem?_cons_zero]; exact rfl) (by kernel_rfl) (by kernel_rfl) (by kernel_rfl) (by exact fun _ _ _ h => h) (Or.inl ⟨by kernel_rfl, ?_⟩) hHeld ?_
              rotate_left
              · intro w hSw
                (try dsimp only at hSw)
                first | (go_simp; done) | (go_simp; with_reducible rfl)
              (try simp only [Act.put, List.setIfInBounds_toArray, List.set_cons_zero, List.set_cons_succ])
              refine wpAnyH_take (i := 15) (v := ?_) (by simp only [List.getElem?_toArray, List.getElem?_cons_succ, List.getElem?_cons_zero]; exact rfl) (by kernel_rfl) (by kernel_rfl) (by kernel_rfl) (by exact fun _ _ _ h => h) (Or.inl ⟨by kernel_rfl, ?_⟩) hHeld ?_
              rotate_left
              · intro w hSw
                (try dsimp only at hSw)
                first | (go_simp; done) | (go_simp; with_reducible rfl)
              (try simp only [Act.put, List.setIfInBounds_toArray, List.set_cons_zero, List.set_cons_succ])
              refine wpAnyH_take (i := 16) (v := ?_) (by simp only [List.getElem?_toArray, List.getElem?_cons_succ, List.getElem?_cons_zero]; exact rfl) (by kernel_rfl) (by kernel_rfl) (by kernel_rfl) (by exact fun _ _ _ h => h) (Or.inl ⟨by kernel_rfl, ?_⟩) hHeld ?_
              rotate_left
              · intro w hSw
                (try dsimp only at hSw)
                first | (go_simp; done) | (go_simp; with_reducible rfl)
              (try simp only [Act.put, List.setIfInBounds_toArray, List.set_cons_zero, List.set_cons_succ])
              refine wpAnyH_take (i := 17) (v := ?_) (by simp only [List.getElem?_toArray, List.getElem?_cons_succ, List.getElem?_cons_zero]; exact rfl) (by kernel_rfl) (by kernel_rfl) (by kernel_rfl) (by exact fun _ _ _ h => h) (Or.inl ⟨by kernel_rfl, ?_⟩) hHeld ?_
              rotate_left
              · intro w hSw
                (try dsimp only at hSw)
                first | (go_simp; done) | (go_simp; with_reducible rfl)
              (try simp only [Act.put, List.setIfInBounds_toArray, List.set_cons_zero, List.set_cons_succ])
              refine wpAnyH_take (i := 18) (v := ?_) (by simp only [List.getElem?_toArray, List.getElem?_cons_succ, List.getElem?_cons_zero]; exact rfl) (by kernel_rfl) (by kernel_rfl) (by kernel_rfl) (by exact fun _ _ _ h => h) (Or.inl ⟨by kernel_rfl, ?_⟩) hHeld ?_
              rotate_left
              · intro w hSw
                (try dsimp only at hSw)
                first | (go_simp; done) | (go_simp; with_reducible rfl)
              (try simp only [Act.put, List.setIfInBounds_toArray, List.set_cons_zero, List.set_cons_succ])
              refine wpAnyH_take (i := 19) (v := ?_) (by simp only [List.getElem?_toArray, List.getElem?_cons_succ, List.getElem?_cons_zero]; exact rfl) (by kernel_rfl) (by kernel_rfl) (by kernel_rfl) (by exact fun _ _ _ h => h) (Or.inl ⟨by kernel_rfl, ?_⟩) hHeld ?_
              rotate_left
              · intro w hSw
                (try dsimp only at hSw)
                first | (go_simp; done) | (go_simp; with_reducible rfl)
              (try simp only [Act.put, List.setIfInBounds_toArray, List.set_cons_zero, List.set_cons_succ])
              refine wpAnyH_ready (rs := [20]) (by kernel_rfl) (by simp) ?_
              refine AllReadyH.cons (by simp only [List.getElem?_toArray, List.getElem?_cons_succ, List.getElem?_cons_zero]; exact rfl) (fun K hK => ?_) AllReadyH.nil
              rw [if_pos (by kernel_rfl)]
              go_simp
              refine (HC32.out _).mono ?_
              rintro e w11 ⟨rfl, hl9⟩
              have HL := Lib.hid (more_trans HL.out hl9.1)
              have K9 := HK2.out _ HL.out
              clear hl9
              try go_wp2_with fail
              refine hK.out _ _ K9 (fun hHeld => ?_)
              clear hK K
              (try simp only [Act.put, List.setIfInBounds_toArray, List.set_cons_zero, List.set_cons_succ])
              refine wpAnyH_take (i := 21) (v := ?_) (by simp only [List.getElem?_toArray, List.getElem?_cons_succ, List.getElem?_cons_zero]; exact rfl) (by kernel_rfl) (by kernel_rfl) (by kernel_rfl) (by exact fun _ _ _ h => h) (Or.inl ⟨by kernel_rfl, ?_⟩) hHeld ?_
              rotate_left
              · intro w hSw
                (try dsimp only at hSw)
                first | (go_simp; done) | (go_simp; with_reducible rfl)
              (try simp only [Act.put, List.setIfInBounds_toArray, List.set_cons_zero, List.set_cons_succ])
              refine wpAnyH_take (i := 22) (v := ?_) (by simp only [List.getElem?_toArray, List.getElem?_cons_succ, List.getElem?_cons_zero]; exact rfl) (by kernel_rfl) (by kernel_rfl) (by kernel_rfl) (by exact fun _ _ _ h => h) (Or.inl ⟨by kernel_rfl, ?_⟩) hHeld ?_
              rotate_left
              · intro w hSw
                (try dsimp only at hSw)
                first | (go_simp; done) | (go_simp; with_reducible rfl)
              (try simp only [Act.put, List.setIfInBounds_toArray, List.set_cons_zero, List.set_cons_succ])
              refine wpAnyH_take (i := 23) (v := ?_) (by simp only [List.getElem?_toArray, List.getElem?_cons_succ, List.getElem?_cons_zero]; exact rfl) (by kernel_rfl) (by kernel_rfl) (by kernel_rfl) (by exact fun _ _ _ h => h) (Or.inl ⟨by kernel_rfl, ?_⟩) hHeld ?_
              rotate_left
              · intro w hSw
                (try dsimp only at hSw)
                first | (go_simp; done) | (go_simp; with_reducible rfl)
              (try simp only [Act.put, List.setIfInBounds_toArray, List.set_cons_zero, List.set_cons_succ])
              refine wpAnyH_done (by kernel_rfl) ?_ _
              go_wp2_with fail
              go_meet
              case rel => exact ⟨by rw [HBT.out], HL⟩
          · have HCK := Lib.hid (show (if cgOkb ⟨⟨kd, ka, kb, kn⟩, t, d, al⟩ then (0 : Int) else 1) = 1 by rw [if_neg hck])
            have HBT := Lib.hid (show bad = true from by
              rw [← HBAD.out]
              simp [goodC, hck])
            clear hck
            refine wp_region_held_drew (S := fun W => W.cell? ⟨XB, 0, none⟩ = some (.int .u8 kd) ∧ W.cell? ⟨XB, 1, none⟩ = some (.int .i64 ka) ∧ W.cell? ⟨XB, 2, none⟩ = some (.int .i64 kb) ∧ W.cell? ⟨XB, 3, none⟩ = some (.int .i64 kn) ∧ W.cell? ⟨XB, 4, none⟩ = some (.int .i64 t) ∧ W.cell? ⟨XB, 5, none⟩ = some (.int .i64 d) ∧ W.cell? ⟨XB, 6, none⟩ = some (.slice xa al.length xc)) (by kernel_rfl) (HK.out _ HL.out) (fun hHeld => ?_)
            refine wpAnyH_take (i := 0) (v := ?_) (by simp only [List.getElem?_toArray, List.getElem?_cons_zero]; exact rfl) (by kernel_rfl) (by kernel_rfl) (by kernel_rfl) (by exact fun _ _ _ h => h) (Or.inl ⟨by kernel_rfl, ?_⟩) hHeld ?_
            rotate_left
            · intro w hSw
              (try dsimp only at hSw)
              first | (go_simp; done) | (go_simp; with_reducible rfl)
            (try simp only [Act.put, List.setIfInBounds_toArray, List.set_cons_zero, List.set_cons_succ])
            refine wpAnyH_ready (rs := [1]) (by kernel_rfl) (by simp) ?_
            refine AllReadyH.cons (by simp only [List.getElem?_toArray, List.getElem?_cons_succ, List.getElem?_cons_zero]; exact rfl) (fun K hK => ?_) AllReadyH.nil
            rw [if_pos (by kernel_rfl)]
            go_simp
            refine (HC160.out _ HL.out).mono ?_
            rintro e w9 ⟨rfl, hw9⟩
            have HL := Lib.hid (show More w6 w9 from by rw [hw9]; exact HL.out)
            have K9 := HK.out _ HL.out
            clear hw9
            try go_wp2_with fail
            refine hK.out _ _ K9 (fun hHeld => ?_)
            clear hK K
            (try simp only [Act.put, List.setIfInBounds_toArray, List.set_cons_zero, List.set_cons_succ])
            refine wpAnyH_take (i := 2) (v := ?_) (by simp only [List.getElem?_toArray, List.getElem?_cons_succ, List.getElem?_cons_zero]; exact rfl) (by kernel_rfl) (by kernel_rfl) (by kernel_rfl) (by exact fun _ _ _ h => h) (Or.inl ⟨by kernel_rfl, ?_⟩) hHeld ?_
            rotate_left
            · intro w hSw
              (try dsimp only at hSw)
              first | (go_simp; done) | (go_simp; with_reducible rfl)
            (try simp only [Act.put, List.setIfInBounds_toArray, List.set_cons_zero, List.set_cons_succ])
            refine wpAnyH_take (i := 3) (v := ?_) (by simp only [List.getElem?_toArray, List.getElem?_cons_succ, List.getElem?_cons_zero]; exact rfl) (by kernel_rfl) (by kernel_rfl) (by kernel_rfl) (by exact fun _ _ _ h => h) (Or.inl ⟨by kernel_rfl, ?_⟩) hHeld ?_
            rotate_left
            · intro w hSw
              (try dsimp only at hSw)
              first | (go_simp; done) | (go_simp; with_reducible rfl)
            (try simp only [Act.put, List.setIfInBounds_toArray, List.set_cons_zero, List.set_cons_succ])
            refine wpAnyH_take (i := 4) (v := ?_) (by simp only [List.getElem?_toArray, List.getElem?_cons_succ, List.getElem?_cons_zero]; exact rfl) (by kernel_rfl) (by kernel_rfl) (by kernel_rfl) (by exact fun _ _ _ h => h) (Or.inl ⟨by kernel_rfl, ?_⟩) hHeld ?_
            rotate_left
            · intro w hSw
              (try dsimp only at hSw)
              first | (go_simp; done) | (go_simp; with_reducible rfl)
            (try simp only [Act.put, List.setIfInBounds_toArray, List.set_cons_zero, List.set_cons_succ])
            refine wpAnyH_ready (rs := [5]) (by kernel_rfl) (by simp) ?_
            refine AllReadyH.cons (by simp only [List.getElem?_toArray, List.getElem?_cons_succ, List.getElem?_cons_zero]; exact rfl) (fun K hK => ?_) AllReadyH.nil
            rw [if_pos (by kernel_rfl)]
            go_simp
            refine (HC99.out _).mono ?_
            rw [HCK.out]
            rintro e w10 ⟨rfl, hl9⟩
            have HL := Lib.hid (more_trans HL.out hl9.1)
            have K9 := HK.out _ HL.out
            clear hl9
            try go_wp2_with fail
            refine hK.out _ _ K9 (fun hHeld => ?_)
            clear hK K
            (try simp only [Act.put, List.setIfInBounds_toArray, List.set_cons_zero, List.set_cons_succ])
            refine wpAnyH_take (i := 6) (v := ?_) (by simp only [List.getElem?_toArray, List.getElem?_cons_succ, List.getElem?_cons_zero]; exact rfl) (by kernel_rfl) (by kernel_rfl) (by kernel_rfl) (by exact fun _ _ _ h => h) (Or.inl ⟨by kernel_rfl, ?_⟩) hHeld ?_
            rotate_left
            · intro w hSw
              (try dsimp only at hSw)
              first | (go_simp; done) | (go_simp; with_reducible rfl)
            (try simp only [Act.put, List.setIfInBounds_toArray, List.set_cons_zero, List.set_cons_succ])
            refine wpAnyH_take (i := 7) (v := ?_) (by simp only [List.getElem?_toArray, List.getElem?_cons_succ, List.getElem?_cons_zero]; exact rfl) (by kernel_rfl) (by kernel_rfl) (by kernel_rfl) (by exact fun _ _ _ h => h) (Or.inl ⟨by kernel_rfl, ?_⟩) hHeld ?_
            rotate_left
            · intro w hSw
              (try dsimp only at hSw)
              first | (go_simp; done) | (go_simp; with_reducible rfl)
            (try simp only [Act.put, List.setIfInBounds_toArray, List.set_cons_zero, List.set_cons_succ])
            refine wpAnyH_take (i := 8) (v := ?_) (by simp only [List.getElem?_toArray, List.getElem?_cons_succ, List.getElem?_cons_zero]; exact rfl) (by kernel_rfl) (by kernel_rfl) (by kernel_rfl) (by exact fun _ _ _ h => h) (Or.inl ⟨by kernel_rfl, ?_⟩) hHeld ?_
            rotate_left
            · intro w hSw
              (try dsimp only at hSw)
              first | (go_simp; done) | (go_simp; with_reducible rfl)
            (try simp only [Act.put, List.setIfInBounds_toArray, List.set_cons_zero, List.set_cons_succ])
            refine wpAnyH_take (i := 9) (v := undef) (by simp only [List.getElem?_toArray, List.getElem?_cons_succ, List.getElem?_cons_zero]; exact rfl) (by kernel_rfl) (by kernel_rfl) (by kernel_rfl) (by exact fun _ _ _ h => h) (Or.inr ⟨by kernel_rfl, by rfl⟩) hHeld ?_
            refine wpAnyH_take (i := 10) (v := undef) (by simp only [List.getElem?_toArray, List.getElem?_cons_succ, List.getElem?_cons_zero]; exact rfl) (by kernel_rfl) (by kernel_rfl) (by kernel_rfl) (by exact fun _ _ _ h => h) (Or.inr ⟨by kernel_rfl, by rfl⟩) hHeld ?_
            refine wpAnyH_take (i := 11) (v := undef) (by simp only [List.getElem?_toArray, List.getElem?_cons_succ, List.getElem?_cons_zero]; exact rfl) (by kernel_rfl) (by kernel_rfl) (by kernel_rfl) (by exact fun _ _ _ h => h) (Or.inr ⟨by kernel_rfl, by rfl⟩) hHeld ?_
            refine wpAnyH_take (i := 12) (v := undef) (by simp only [List.getElem?_toArray, List.getElem?_cons_succ, List.getElem?_cons_zero]; exact rfl) (by kernel_rfl) (by kernel_rfl) (by kernel_rfl) (by exact fun _ _ _ h => h) (Or.inr ⟨by kernel_rfl, by rfl⟩) hHeld ?_
            refine wpAnyH_take (i := 13) (v := undef) (by simp only [List.getElem?_toArray, List.getElem?_cons_succ, List.getElem?_cons_zero]; exact rfl) (by kernel_rfl) (by kernel_rfl) (by kernel_rfl) (by exact fun _ _ _ h => h) (Or.inr ⟨by kernel_rfl, by rfl⟩) hHeld ?_
            refine wpAnyH_take (i := 14) (v := undef) (by simp only [List.getElem?_toArray, List.getElem?_cons_succ, List.getElem?_cons_zero]; exact rfl) (by kernel_rfl) (by kernel_rfl) (by kernel_rfl) (by exact fun _ _ _ h => h) (Or.inr ⟨by kernel_rfl, by rfl⟩) hHeld ?_
            refine wpAnyH_take (i := 15) (v := undef) (by simp only [List.getElem?_toArray, List.getElem?_cons_succ, List.getElem?_cons_zero]; exact rfl) (by kernel_rfl) (by kernel_rfl) (by kernel_rfl) (by exact fun _ _ _ h => h) (Or.inr ⟨by kernel_rfl, by rfl⟩) hHeld ?_
            refine wpAnyH_take (i := 16) (v := undef) (by simp only [List.getElem?_toArray, List.getElem?_cons_succ, List.getElem?_cons_zero]; exact rfl) (by kernel_rfl) (by kernel_rfl) (by kernel_rfl) (by exact fun _ _ _ h => h) (Or.inr ⟨by kernel_rfl, by rfl⟩) hHeld ?_
            refine wpAnyH_take (i := 17) (v := undef) (by simp only [List.getElem?_toArray, List.getElem?_cons_succ, List.getElem?_cons_zero]; exact rfl) (by kernel_rfl) (by kernel_rfl) (by kernel_rfl) (by exact fun _ _ _ h => h) (Or.inr ⟨by kernel_rfl, by rfl⟩) hHeld ?_
            refine wpAnyH_take (i := 18) (v := undef) (by simp only [List.getElem?_toArray, List.getElem?_cons_succ, List.getElem?_cons_zero]; exact rfl) (by kernel_rfl) (by kernel_rfl) (by kernel_rfl) (by exact fun _ _ _ h => h) (Or.inr ⟨by kernel_rfl, by rfl⟩) hHeld ?_
            refine wpAnyH_take (i := 19) (v := undef) (by simp only [List.getElem?_toArray, List.getElem?_cons_succ, List.getElem?_cons_zero]; exact rfl) (by kernel_rfl) (by kernel_rfl) (by kernel_rfl) (by exact fun _ _ _ h => h) (Or.inr ⟨by kernel_rfl, by rfl⟩) hHeld ?_
            refine wpAnyH_take (i := 20) (v := undef) (by simp only [List.getElem?_toArray, List.getElem?_cons_succ, List.getElem?_cons_zero]; exact rfl) (by kernel_rfl) (by kernel_rfl) (by kernel_rfl) (by exact fun _ _ _ h => h) (Or.inr ⟨by kernel_rfl, by rfl⟩) hHeld ?_
            refine wpAnyH_take (i := 21) (v := undef) (by simp only [List.getElem?_toArray, List.getElem?_cons_succ, List.getElem?_cons_zero]; exact rfl) (by kernel_rfl) (by kernel_rfl) (by kernel_rfl) (by exact fun _ _ _ h => h) (Or.inr ⟨by kernel_rfl, by rfl⟩) hHeld ?_
            refine wpAnyH_take (i := 22) (v := undef) (by simp only [List.getElem?_toArray, List.getElem?_cons_succ, List.getElem?_cons_zero]; exact rfl) (by kernel_rfl) (by kernel_rfl) (by kernel_rfl) (by exact fun _ _ _ h => h) (Or.inr ⟨by kernel_rfl, by rfl⟩) hHeld ?_
            (try simp only [Act.put, List.setIfInBounds_toArray, List.set_cons_zero, List.set_cons_succ])
            refine wpAnyH_take (i := 23) (v := ?_) (by simp only [List.getElem?_toArray, List.getElem?_cons_succ, List.getElem?_cons_zero]; exact rfl) (by kernel_rfl) (by kernel_rfl) (by kernel_rfl) (by exact fun _ _ _ h => h) (Or.inl ⟨by kernel_rfl, ?_⟩) hHeld ?_
            rotate_left
            · intro w hSw
              (try dsimp only at hSw)
              first | (go_simp; done) | (go_simp; with_reducible rfl)
            (try simp only [Act.put, List.setIfInBounds_toArray, List.set_cons_zero, List.set_cons_succ])
            refine wpAnyH_done (by kernel_rfl) ?_ _
            go_wp2_with fail
            go_meet
            case rel => exact ⟨by rw [HBT.out], HL⟩
        · have hne : (e2 != 0) = true := by simpa using he
          have HBT := Lib.hid (show bad = true from by
            rw [← HBAD.out]
            simp [goodC, HE2.out, he])
          clear he
          refine wp_region_held_drew (S := fun W => W.cell? ⟨XB, 0, none⟩ = some (.int .u8 kd) ∧ W.cell? ⟨XB, 1, none⟩ = some (.int .i64 ka) ∧ W.cell? ⟨XB, 2, none⟩ = some (.int .i64 kb) ∧ W.cell? ⟨XB, 3, none⟩ = some (.int .i64 kn) ∧ W.cell? ⟨XB, 4, none⟩ = some (.int .i64 t) ∧ W.cell? ⟨XB, 5, none⟩ = some (.int .i64 d) ∧ W.cell? ⟨XB, 6, none⟩ = some (.slice xa al.length xc)) (by kernel_rfl) (HK.out _ HL.out) (fun hHeld => ?_)
          refine wpAnyH_take (i := 0) (v := ?_) (by simp only [List.getElem?_toArray, List.getElem?_cons_zero]; exact rfl) (by kernel_rfl) (by kernel_rfl) (by kernel_rfl) (by exact fun _ _ _ h => h) (Or.inl ⟨by kernel_rfl, ?_⟩) hHeld ?_
          rotate_left
          · intro w hSw
            (try dsimp only at hSw)
            first | (go_simp; done) | (go_simp; with_reducible rfl)
          (try simp only [Act.put, List.setIfInBounds_toArray, List.set_cons_zero, List.set_cons_succ])
          refine wpAnyH_ready (rs := [1]) (by kernel_rfl) (by simp) ?_
          refine AllReadyH.cons (by simp only [List.getElem?_toArray, List.getElem?_cons_succ, List.getElem?_cons_zero]; exact rfl) (fun K hK => ?_) AllReadyH.nil
          rw [if_pos (by kernel_rfl)]
          go_simp
          refine (HC160.out _ HL.out).mono ?_
          rintro e w9 ⟨rfl, hw9⟩
          have HL := Lib.hid (show More w6 w9 from by rw [hw9]; exact HL.out)
          have K9 := HK.out _ HL.out
          clear hw9
          try go_wp2_with fail
          refine hK.out _ _ K9 (fun hHeld => ?_)
          clear hK K
          (try simp only [Act.put, List.setIfInBounds_toArray, List.set_cons_zero, List.set_cons_succ])
          refine wpAnyH_take (i := 2) (v := ?_) (by simp only [List.getElem?_toArray, List.getElem?_cons_succ, List.getElem?_cons_zero]; exact rfl) (by kernel_rfl) (by kernel_rfl) (by kernel_rfl) (by exact fun _ _ _ h => h) (Or.inl ⟨by kernel_rfl, ?_⟩) hHeld ?_
          rotate_left
          · intro w hSw
            (try dsimp only at hSw)
            first | (go_simp; done) | (go_simp; with_reducible rfl)
          (try simp only [Act.put, List.setIfInBounds_toArray, List.set_cons_zero, List.set_cons_succ])
          refine wpAnyH_take (i := 3) (v := ?_) (by simp only [List.getElem?_toArray, List.getElem?_cons_succ, List.getElem?_cons_zero]; exact rfl) (by kernel_rfl) (by kernel_rfl) (by kernel_rfl) (by exact fun _ _ _ h => h) (Or.inl ⟨by kernel_rfl, ?_⟩) hHeld ?_
          rotate_left
          · intro w hSw
            (try dsimp only at hSw)
            first | (go_simp; done) | (go_simp; with_reducible rfl)
          (try simp only [Act.put, List.setIfInBounds_toArray, List.set_cons_zero, List.set_cons_succ])
          refine wpAnyH_take (i := 4) (v := undef) (by simp only [List.getElem?_toArray, List.getElem?_cons_succ, List.getElem?_cons_zero]; exact rfl) (by kernel_rfl) (by kernel_rfl) (by kernel_rfl) (by exact fun _ _ _ h => h) (Or.inr ⟨by kernel_rfl, by rfl⟩) hHeld ?_
          refine wpAnyH_take (i := 5) (v := undef) (by simp only [List.getElem?_toArray, List.getElem?_cons_succ, List.getElem?_cons_zero]; exact rfl) (by kernel_rfl) (by kernel_rfl) (by kernel_rfl) (by exact fun _ _ _ h => h) (Or.inr ⟨by kernel_rfl, by rfl⟩) hHeld ?_
          refine wpAnyH_take (i := 6) (v := undef) (by simp only [List.getElem?_toArray, List.getElem?_cons_succ, List.getElem?_cons_zero]; exact rfl) (by kernel_rfl) (by kernel_rfl) (by kernel_rfl) (by exact fun _ _ _ h => h) (Or.inr ⟨by kernel_rfl, by rfl⟩) hHeld ?_
          (try simp only [Act.put, List.setIfInBounds_toArray, List.set_cons_zero, List.set_cons_succ])
          refine wpAnyH_take (i := 7) (v := ?_) (by simp only [List.getElem?_toArray, List.getElem?_cons_succ, List.getElem?_cons_zero]; exact rfl) (by kernel_rfl) (by kernel_rfl) (by kernel_rfl) (by exact fun _ _ _ h => h) (Or.inl ⟨by kernel_rfl, ?_⟩) hHeld ?_
          rotate_left
          · intro w hSw
            (try dsimp only at hSw)
            first | (go_simp; done) | (go_simp; with_reducible rfl)
          (try simp only [Act.put, List.setIfInBounds_toArray, List.set_cons_zero, List.set_cons_succ])
          refine wpAnyH_take (i := 8) (v := ?_) (by simp only [List.getElem?_toArray, List.getElem?_cons_succ, List.getElem?_cons_zero]; exact rfl) (by kernel_rfl) (by kernel_rfl) (by kernel_rfl) (by exact fun _ _ _ h => h) (Or.inl ⟨by kernel_rfl, ?_⟩) hHeld ?_
          rotate_left
          · intro w hSw
            (try dsimp only at hSw)
            first | (go_simp; done) | (go_simp; with_reducible rfl)
          (try simp only [Act.put, List.setIfInBounds_toArray, List.set_cons_zero, List.set_cons_succ])
          refine wpAnyH_take (i := 9) (v := undef) (by simp only [List.getElem?_toArray, List.getElem?_cons_succ, List.getElem?_cons_zero]; exact rfl) (by kernel_rfl) (by kernel_rfl) (by kernel_rfl) (by exact fun _ _ _ h => h) (Or.inr ⟨by kernel_rfl, by rfl⟩) hHeld ?_
          refine wpAnyH_take (i := 10) (v := undef) (by simp only [List.getElem?_toArray, List.getElem?_cons_succ, List.getElem?_cons_zero]; exact rfl) (by kernel_rfl) (by kernel_rfl) (by kernel_rfl) (by exact fun _ _ _ h => h) (Or.inr ⟨by kernel_rfl, by rfl⟩) hHeld ?_
          refine wpAnyH_take (i := 11) (v := undef) (by simp only [List.getElem?_toArray, List.getElem?_cons_succ, List.getElem?_cons_zero]; exact rfl) (by kernel_rfl) (by kernel_rfl) (by kernel_rfl) (by exact fun _ _ _ h => h) (Or.inr ⟨by kernel_rfl, by rfl⟩) hHeld ?_
          refine wpAnyH_take (i := 12) (v := undef) (by simp only [List.getElem?_toArray, List.getElem?_cons_succ, List.getElem?_cons_zero]; exact rfl) (by kernel_rfl) (by kernel_rfl) (by kernel_rfl) (by exact fun _ _ _ h => h) (Or.inr ⟨by kernel_rfl, by rfl⟩) hHeld ?_
          refine wpAnyH_take (i := 13) (v := undef) (by simp only [List.getElem?_toArray, List.getElem?_cons_succ, List.getElem?_cons_zero]; exact rfl) (by kernel_rfl) (by kernel_rfl) (by kernel_rfl) (by exact fun _ _ _ h => h) (Or.inr ⟨by kernel_rfl, by rfl⟩) hHeld ?_
          refine wpAnyH_take (i := 14) (v := undef) (by simp only [List.getElem?_toArray, List.getElem?_cons_succ, List.getElem?_cons_zero]; exact rfl) (by kernel_rfl) (by kernel_rfl) (by kernel_rfl) (by exact fun _ _ _ h => h) (Or.inr ⟨by kernel_rfl, by rfl⟩) hHeld ?_
          refine wpAnyH_take (i := 15) (v := undef) (by simp only [List.getElem?_toArray, List.getElem?_cons_succ, List.getElem?_cons_zero]; exact rfl) (by kernel_rfl) (by kernel_rfl) (by kernel_rfl) (by exact fun _ _ _ h => h) (Or.inr ⟨by kernel_rfl, by rfl⟩) hHeld ?_
          refine wpAnyH_take (i := 16) (v := undef) (by simp only [List.getElem?_toArray, List.getElem?_cons_succ, List.getElem?_cons_zero]; exact rfl) (by kernel_rfl) (by kernel_rfl) (by kernel_rfl) (by exact fun _ _ _ h => h) (Or.inr ⟨by kernel_rfl, by rfl⟩) hHeld ?_
          refine wpAnyH_take (i := 17) (v := undef) (by simp only [List.getElem?_toArray, List.getElem?_cons_succ, List.getElem?_cons_zero]; exact rfl) (by kernel_rfl) (by kernel_rfl) (by kernel_rfl) (by exact fun _ _ _ h => h) (Or.inr ⟨by kernel_rfl, by rfl⟩) hHeld ?_
          refine wpAnyH_take (i := 18) (v := undef) (by simp only [List.getElem?_toArray, List.getElem?_cons_succ, List.getElem?_cons_zero]; exact rfl) (by kernel_rfl) (by kernel_rfl) (by kernel_rfl) (by exact fun _ _ _ h => h) (Or.inr ⟨by kernel_rfl, by rfl⟩) hHeld ?_
          refine wpAnyH_take (i := 19) (v := undef) (by simp only [List.getElem?_toArray, List.getElem?_cons_succ, List.getElem?_cons_zero]; exact rfl) (by kernel_rfl) (by kernel_rfl) (by kernel_rfl) (by exact fun _ _ _ h => h) (Or.inr ⟨by kernel_rfl, by rfl⟩) hHeld ?_
          refine wpAnyH_take (i := 20) (v := undef) (by simp only [List.getElem?_toArray, List.getElem?_cons_succ, List.getElem?_cons_zero]; exact rfl) (by kernel_rfl) (by kernel_rfl) (by kernel_rfl) (by exact fun _ _ _ h => h) (Or.inr ⟨by kernel_rfl, by rfl⟩) hHeld ?_
          refine wpAnyH_take (i := 21) (v := undef) (by simp only [List.getElem?_toArray, List.getElem?_cons_succ, List.getElem?_cons_zero]; exact rfl) (by kernel_rfl) (by kernel_rfl) (by kernel_rfl) (by exact fun _ _ _ h => h) (Or.inr ⟨by kernel_rfl, by rfl⟩) hHeld ?_
          refine wpAnyH_take (i := 22) (v := undef) (by simp only [List.getElem?_toArray, List.getElem?_cons_succ, List.getElem?_cons_zero]; exact rfl) (by kernel_rfl) (by kernel_rfl) (by kernel_rfl) (by exact fun _ _ _ h => h) (Or.inr ⟨by kernel_rfl, by rfl⟩) hHeld ?_
          (try simp only [Act.put, List.setIfInBounds_toArray, List.set_cons_zero, List.set_cons_succ])
          refine wpAnyH_take (i := 23) (v := ?_) (by simp only [List.getElem?_toArray, List.getElem?_cons_succ, List.getElem?_cons_zero]; exact rfl) (by kernel_rfl) (by kernel_rfl) (by kernel_rfl) (by exact fun _ _ _ h => h) (Or.inl ⟨by kernel_rfl, ?_⟩) hHeld ?_
          rotate_left
          · intro w hSw
            (try dsimp only at hSw)
            first | (go_simp; done) | (go_simp; with_reducible rfl)
          (try simp only [Act.put, List.setIfInBounds_toArray, List.set_cons_zero, List.set_cons_succ])
          refine wpAnyH_done (by kernel_rfl) ?_ _
          go_wp2_with fail
          go_meet
          case rel => exact ⟨by rw [HBT.out], HL⟩
      case rest =>
        obtain ⟨rfl, HMC⟩ := hcut
        obtain ⟨w7, rfl⟩ : ∃ w7 : World, w7 = wc := ⟨_, rfl⟩
        clear x0 x1 x2 x3 x4 x5 x6 hbx HK HL HC160 HC99
        have HX7 := Lib.hid ((HMC.out.block (blk_lt HXB.out)).trans HXB.out)
        have HM57 := Lib.hid (more_trans HMO.out HMC.out)
        have HLS7 := Lib.hid (HLS5.out.keep (more_grown HM57.out rb))
        have HD7 := Lib.hid (show RdS w7 rb s2 from HD5.out.more HM57.out)
        have HR7 := Lib.hid ((HM57.out.block (blk_lt HR5.out)).trans HR5.out)
        have HB7 := Lib.hid (HB5.out.trans (HM57.out.below.mono (by have := blk_lt HR5.out; omega)))
        have HYN := Lib.hid (show Byts s2.1 from HBY.out.2.2.2.1)
        cases bad with
        | true =>
          have hgf : goodC (o.map (·.2)) (⟨⟨kd, ka, kb, kn⟩, t, d, al⟩, s2) = false := by have h1 := HBAD.out; revert h1; cases goodC (o.map (·.2)) (⟨⟨kd, ka, kb, kn⟩, t, d, al⟩, s2) <;> simp
          have HRN := Lib.hid (show R = none from by have h1 := HGQ.out; rw [hgf, if_neg (by decide)] at h1; exact h1.symm)
          clear hgf
          have r0 : w7.cell? ⟨N, 0, none⟩ = some (.slice none 0 0) := cell_of_blk HR7.out rfl
          have f0 := thaw HR7.out 0
          have hbr := cell_lt r0
          go_wp2_with fail
          have k0 : (w7.setCell ⟨N, 0, none⟩ (.slice none 0 0)).cell? ⟨N, 0, none⟩ = some (.slice none 0 0) := setCell_eq r0
          refine bodyPost_ret (v := .tuple #[.agg #[.slice none 0 0], .int .i64 6]) (by simp [results, Tryz.results35, go_sem, k0]) rfl ⟨⟨_, _, rfl, Or.inl ⟨HRN.out, rfl, rfl⟩⟩, HB7.out.setCell (p := ⟨N, 0, none⟩) (Nat.le_refl _) _⟩
        | false =>
          have hgt : goodC (o.map (·.2)) (⟨⟨kd, ka, kb, kn⟩, t, d, al⟩, s2) = true := by have h1 := HBAD.out; revert h1; cases goodC (o.map (·.2)) (⟨⟨kd, ka, kb, kn⟩, t, d, al⟩, s2) <;> simp
          have HGN := Lib.hid (show rGo k (o.map (·.2) ++ [⟨⟨kd, ka, kb, kn⟩, t, d, al⟩]) s2 = R from by have h1 := HGQ.out; rw [hgt, if_pos rfl] at h1; exact h1)
          have HGP := Lib.hid (show CgOk ⟨⟨kd, ka, kb, kn⟩, t, d, al⟩ ∧ lastOk (o.map (·.2)) ⟨⟨kd, ka, kb, kn⟩, t, d, al⟩ = true from by
            unfold goodC at hgt
            simp only [Bool.and_eq_true] at hgt
            exact ⟨(cgOkb_iff _).1 hgt.2.1, hgt.2.2⟩)
          clear hgt
          have x0 : w7.cell? ⟨XB, 0, none⟩ = some (.int .u8 kd) := cell_of_blk HX7.out rfl
          have x1 : w7.cell? ⟨XB, 1, none⟩ = some (.int .i64 ka) := cell_of_blk HX7.out rfl
          have x2 : w7.cell? ⟨XB, 2, none⟩ = some (.int .i64 kb) := cell_of_blk HX7.out rfl
          have x3 : w7.cell? ⟨XB, 3, none⟩ = some (.int .i64 kn) := cell_of_blk HX7.out rfl
          have x4 : w7.cell? ⟨XB, 4, none⟩ = some (.int .i64 t) := cell_of_blk HX7.out rfl
          have x5 : w7.cell? ⟨XB, 5, none⟩ = some (.int .i64 d) := cell_of_blk HX7.out rfl
          have x6 : w7.cell? ⟨XB, 6, none⟩ = some (.slice xa al.length xc) := cell_of_blk HX7.out rfl
          have hbx := cell_lt x0
          obtain ⟨on, HON⟩ : ∃ on, Hid (o.length = on) := ⟨_, Lib.hid rfl⟩
          obtain ⟨an, HAN2⟩ : ∃ an, Hid (al.length = an) := ⟨_, Lib.hid rfl⟩
          rw [HAN2.out] at x6
          rw [HON.out]
          have HMA := Lib.hid (more_alloc w7 (.cells #[.int .u8 kd, .int .i64 ka, .int .i64 kb, .int .i64 kn, .int .i64 t, .int .i64 d, .slice xa an xc] 58))
          have HLA := Lib.hid (HLS7.out.keep (more_grown HMA.out rb))
          have HL9 := Lib.hid (room72r (n := on + 1) (by have h1 := HOL.out; have h2 := HON.out; have := HLO.out; omega))
          have HRS := Lib.hid (show rb + 1 ≤ w7.heap.size from HD7.out.lt)
          go_wp2_with (at_builtin; refine wpList_append_lies _ rfl _ _ 23 rfl (rb + 1) 58 i0 _ 7 72 Tryz.underlying23 hi0 hz0 hz1 hz2 rfl (by omega) (.slice oa on oc) on (flatC gC o) rfl (by have h1 := HLA.out.own; rw [HON.out] at h1; exact h1) ⟨w7.heap.size, 0, none⟩ 1 1 [.int .u8 kd, .int .i64 ka, .int .i64 kb, .int .i64 kn, .int .i64 t, .int .i64 d, .slice xa an xc] rfl rfl (World.news_of_block (cs := #[.int .u8 kd, .int .i64 ka, .int .i64 kb, .int .i64 kn, .int .i64 t, .int .i64 d, .slice xa an xc]) (t := 58) (fr := (0, 0)) (alloc_last _ _)) (by simp [Value.oneCell']) (by omega) HL9.out.1 HL9.out.2 (by rw [World.size_alloc]; exact Nat.le_succ_of_le HRS.out) (w7.heap.size + 1) (by simp) ?_; intro gg cap8 w10 hown8 hgrow8 hat8 _)
          have HPU := Lib.hid (HLA.out.push (p := (.slice xa an xc, ⟨⟨kd, ka, kb, kn⟩, t, d, al⟩)) (w' := w10) (v' := .slice (some ⟨gg, 0, none⟩) (on + 1) cap8) (by
              have h1 := HARG.out
              rw [HAN2.out] at h1
              exact (h1.more (more_trans HM57.out HMA.out)).mono (fun b hb _ => ⟨by have h2 : wo.heap.size ≤ b := hb; have := HRL.out; omega, fun e => by have h2 : wo.heap.size ≤ b := hb; have h3 := HOW.out b (by rw [← e]); omega⟩) (fun _ _ _ => rfl)) (by rw [HON.out]; exact hown8) (by rw [HON.out]; exact hgrow8) (fun z hz => by
                have hzg : gg = z := by injection hz
                subst hzg
                rw [HON.out]
                rcases hat8 with h | h
                · exact Or.inl h
                · exact Or.inr (by rw [h, World.size_alloc]; exact Nat.le_refl _)))
          have HGB := Lib.hid (show ∀ b, b ≤ rb → w10.heap[b]? = w7.heap[b]? from fun b hb => (hgrow8.block b (by rw [World.size_alloc]; have := HRS.out; omega) (fun e => by have h1 := (HLA.out.own.lt b (by rw [HON.out]; exact e.symm)).1; omega)).trans (Below.heap_alloc w7 _ _ (by have := HRS.out; omega)))
          have HDN := Lib.hid (show RdS w10 rb s2 from HD7.out.keep HGB.out)
          have HRN := Lib.hid ((HGB.out N (by have := HNB.out; omega)).trans HR7.out)
          have HBN := Lib.hid (show Below N w w10 from (HB7.out.alloc (by have := blk_lt HR7.out; omega) _).grown hgrow8 (by rw [World.size_alloc]; have := blk_lt HR7.out; omega) (fun z hz => by have h1 := (HLA.out.own.lt z (by rw [HON.out]; exact hz)).1; have := HNB.out; omega))
          have HOKN := Lib.hid (show (∀ p ∈ o ++ [((.slice xa an xc, ⟨⟨kd, ka, kb, kn⟩, t, d, al⟩) : GV)], CgOk p.2) ∧ AscG (o ++ [((.slice xa an xc, ⟨⟨kd, ka, kb, kn⟩, t, d, al⟩) : GV)]) ∧ ∀ p ∈ o ++ [((.slice xa an xc, ⟨⟨kd, ka, kb, kn⟩, t, d, al⟩) : GV)], ∀ n ∈ p.2.l, In64 n from by
            refine ⟨fun p hp => ?_, ascG_push HOK.out.2.1 HGP.out.2, fun p hp => ?_⟩
            · rcases List.mem_append.1 hp with h | h
              · exact HOK.out.1 p h
              · rw [List.mem_singleton] at h; subst h; exact HGP.out.1
            · rcases List.mem_append.1 hp with h | h
              · exact HOK.out.2.2 p h
              · rw [List.mem_singleton] at h; subst h; exact HBY.out.2.2.1)
          clear hown8 hgrow8 hat8 x0 x1 x2 x3 x4 x5 x6 hbx
          have hlt9 := HLT.out
          go_wp2_with fail
          go_roundw
          case rel => exact ⟨j + 1, o ++ [((.slice xa an xc, ⟨⟨kd, ka, kb, kn⟩, t, d, al⟩) : GV)], s2, by have := HLT.out; omega, by go_num, Lib.hid (by rw [List.length_append, List.length_singleton, HOL.out]), Lib.hid (by rw [HKE.out, List.map_append]; exact HGN.out), HPU, HDN, HYN, HBN, HRN, HOKN⟩
          case measure => have := HLT.out; simp [intOf]; omega
    · obtain rfl : j = cn := by omega
      rw [Nat.sub_self] at HGO
      have HG0 := Lib.hid (show (if rEnd s = 0 then some (o.map (·.2)) else none) = R from HGO.out)
      have HEN := Lib.hid (rdEnd_any rb s wo HD.out)
      obtain ⟨en, HEE⟩ : ∃ en, Hid (rEnd s = en) := ⟨_, Lib.hid rfl⟩
      rw [HEE.out] at HEN HG0
      have r0 : wo.cell? ⟨N, 0, none⟩ = some (.slice none 0 0) := cell_of_blk HR0.out rfl
      have f0 := thaw HR0.out 0
      have hbr := cell_lt r0
      by_cases he : en = 0
      · subst he
        have HRS2 := Lib.hid (show R = some (o.map (·.2)) from by have h1 := HG0.out; rw [if_pos rfl] at h1; exact h1.symm)
        go_wp2_with fail
        refine HEN.out.mono ?_
        rintro e w9 ⟨rfl, rfl⟩
        go_wp2_with fail
        have k0 : (w9.setCell ⟨N, 0, none⟩ (.slice oa o.length oc)).cell? ⟨N, 0, none⟩ = some (.slice oa o.length oc) := setCell_eq r0
        refine bodyPost_ret (v := .tuple #[.agg #[.slice oa o.length oc], .int .i64 0]) (by simp [results, Tryz.results35, go_sem, k0]) rfl ⟨⟨_, _, rfl, Or.inr ⟨o, HRS2.out, rfl, ?_, HOK.out.2.2⟩⟩, HB.out.setCell (p := ⟨N, 0, none⟩) (Nat.le_refl _) _⟩
        refine ⟨?_, fun p hp => ?_, HOK.out.1, HOK.out.2.1, by rw [HOL.out]; have := HUL.out; omega⟩
        · exact (Row.of_owns HLS.out.own).mono (fun b hb => by have h1 : rb + 1 ≤ b := hb; have := HNB.out; show N ≤ b; omega) (fun b off x hb hc => by rw [← hc]; exact World.cell?_of_block (w := w9) (a := ⟨b, off, none⟩) (Below.heap_setCell _ _ _ _ (show b ≠ N by have h1 : rb + 1 ≤ b := hb; have := HNB.out; omega)))
        · exact (HLS.out.ent p hp).mono (fun b hb _ => by have h1 := hb.1; have := HNB.out; show N ≤ b; omega) (fun b hb _ => Below.heap_setCell _ _ _ _ (show b ≠ N by have h1 := hb.1; have := HNB.out; omega))
      · have HRN := Lib.hid (show R = none from by have h1 := HG0.out; rw [if_neg he] at h1; exact h1.symm)
        have hne : (en != 0) = true := by simpa using he
        clear he
        go_wp2_with fail
        refine HEN.out.mono ?_
        rintro e w9 ⟨rfl, rfl⟩
        go_wp2_with fail
        have k0 : (w9.setCell ⟨N, 0, none⟩ (.slice none 0 0)).cell? ⟨N, 0, none⟩ = some (.slice none 0 0) := setCell_eq r0
        refine bodyPost_ret (v := .tuple #[.agg #[.slice none 0 0], .int .i64 6]) (by simp [results, Tryz.results35, go_sem, k0]) rfl ⟨⟨_, _, rfl, Or.inl ⟨HRN.out, rfl, rfl⟩⟩, HB.out.setCell (p := ⟨N, 0, none⟩) (Nat.le_refl _) _⟩
end Go.Proofs.YtemeppfikpafbaaGreatDoor

