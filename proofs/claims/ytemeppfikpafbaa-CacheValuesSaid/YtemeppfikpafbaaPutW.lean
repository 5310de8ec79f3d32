/- (*Cache).Put (37), where all keys are choices and the limit is not passed. -/
import Derived.Test.YtemeppfikpafbaaCac2
import Derived.Test.YtemeppfikpafbaaInvS
import Derived.Deep.DeepCutAuto
namespace Go.Proofs.Ytemeppfikpafbaa
open Go.RowKit
theorem info148 : (Try.prog.info? 148).map (fun i => (i.zero, i.size, i.bytes)) = some (some (.agg #[.slice none 0 0, .slice none 0 0, .slice none 0 0, .bool false]), 4, 80) := by kernel_rfl
def usL (s : List Ch) (ks : List K4) : List Ch := ks.map fun k => (getC s k).getD default
structure InvP (w2 : World) (sv hv : Value) (l : List M3) (vd : Bool) (b0 b1 b2 b3 b4 b5 b6 : Bool) (x18 x19 x20 x21 x22 x11 : Value) (W : World) : Prop where
  hl : Hid (More w2 W)
  g0 : b0 = true → x18 = .agg #[sv]
  g1 : b1 = true → x19 = hv
  g2 : b2 = true → Hid (W.ownsRow w2.heap.size 54 3 x20 l.length (flatC mC (srtM l)))
  g3 : b3 = true → x21 = .bool vd
  g4 : b4 = true → x22 = .agg #[sv, x20, .slice none 0 0, .bool vd]
  g5 : b5 = true → ∃ EB, x11 = .pointer (some ⟨EB, 0, none⟩) ∧ w2.heap.size ≤ EB ∧ (b6 = false → Hid (W.heap[EB]? = some (.cells #[.slice none 0 0, .slice none 0 0, .slice none 0 0, .bool false] 148)))
  g6 : b6 = true → ∃ EB, x11 = .pointer (some ⟨EB, 0, none⟩) ∧ w2.heap.size ≤ EB ∧ Hid (W.heap[EB]? = some (.cells #[sv, x20, .slice none 0 0, .bool vd] 148))
  d62 : b6 = true → b2 = true
  d65 : b6 = true → b5 = true
  d42 : b4 = true → b2 = true
set_option maxRecDepth 100000 in
set_option maxHeartbeats 8000000 in
theorem put_any (S0 : Nat → Prop) (CB : Nat) (lim hits : Int) (E : List Ent) (M : Nat) (cv : Value) (raw : List RawE) (s : List Ch) (l : List M3) (ks : List K4) (sv hv kv : Value) (vd : Bool) (w : World)
    (hC : CState S0 w CB lim hits E M cv raw) (hM : M ≤ w.heap.size) (hS0 : ∀ b, w.heap.size ≤ b → S0 b)
    (ha : AscC s) (hs : Row (fun b => M ≤ b ∧ S0 b) w 7 s.length sv (flatC chC s)) (hsl : s.length ≤ 100)
    (hl : Row anyB w 3 l.length hv (flatC mC l)) (hn : NilA hv) (hll : l.length ≤ 100) (hne : ∀ j (h : j + 1 < (srtM l).length), (srtM l)[j + 1] ≠ (srtM l)[j])
    (hk : Row anyB w 4 ks.length kv (flatC kC ks)) (hkl : ks.length ≤ 100) (hin : ∀ k ∈ ks, ∃ x ∈ s, x.k = k) (hlim : (E.length : Int) + 1 ≤ lim) (hEl : E.length ≤ 100) :
    Calls Try.prog 37 #[.pointer (some ⟨CB, 0, none⟩), .agg #[sv], hv, kv, .bool vd] w fun e w' => (e = .returned (.int .i64 0) ∧ ∃ cv' raw', CState S0 w' CB lim hits (E ++ [⟨s, srtM l, usL s ks, vd⟩]) w'.heap.size cv' raw') ∧ Below CB w w' := by
  obtain ⟨sa, sc, rfl, _⟩ := hs.shape
  obtain ⟨la, lc, rfl, _⟩ := hl.shape
  obtain ⟨ka, kc, rfl, _⟩ := hk.shape
  have HC := Lib.hid hC; clear hC
  have HS := Lib.hid hs; clear hs
  have HL := Lib.hid hl
  have HK := Lib.hid hk; clear hk
  have HA := Lib.hid ha
  have HIN := Lib.hid hin; clear hin
  have HNE := Lib.hid hne; clear hne
  have HMM := Lib.hid (And.intro hM hS0)
  have HLIM := Lib.hid (And.intro hlim hEl)
  have HLEN := Lib.hid (And.intro hsl (And.intro hll hkl))
  have HSRT0 := Lib.hid (fun W (hW : More w W) => sorted_any l _ W (by omega) (hl.below hW.below) hn)
  have HCM := Lib.hid hn
  clear hl hn hM hS0 ha hlim hEl
  obtain ⟨i0, hi0, hz0, hz1, hz2⟩ := info_parts info113
  go_enter Try.func37, Try.ntmps37
  go_upto_region 3 with (fail)
  have HSB := Lib.hid (alloc_last w (.cells #[.slice sa s.length sc] 73))
  have HM2 := Lib.hid (more_alloc w (.cells #[.slice sa s.length sc] 73))
  obtain ⟨SB, HSBE⟩ : ∃ SB, Hid (SB = w.heap.size) := ⟨_, Lib.hid rfl⟩
  rw [← HSBE.out] at HSB ⊢
  generalize w.alloc (.cells #[.slice sa s.length sc] 73) = w2 at *
  go_cut [11] (fun t wx => ∃ EB hv', t = .pointer (some ⟨EB, 0, none⟩) ∧ Hid (w2.heap.size ≤ EB) ∧ Hid (wx.heap[EB]? = some (.cells #[.slice sa s.length sc, hv', .slice none 0 0, .bool vd] 148)) ∧ Hid (wx.ownsRow w2.heap.size 54 3 hv' l.length (flatC mC (srtM l))) ∧ Hid (More w2 wx))
  case first =>
    have HSRT := Lib.hid (fun W (hW : More w2 W) => HSRT0.out W (more_trans HM2.out hW))
    have HL0 := Lib.hid (more_drew w2)
    have HSV := Lib.hid (show ∃ a c, (Value.slice sa s.length sc) = .slice a s.length c from ⟨_, _, rfl⟩)
    refine wp_region_inv0 (fun iA il ia W => ∃ (b0 b1 b2 b3 b4 b5 b6 : Bool) (x18 x19 x20 x21 x22 x11 : Value), il = #[b0, b1, b2, b3, b4, b5, b6] ∧ ia = ((((((iA.put (some 18) x18).put (some 19) x19).put (some 20) x20).put (some 21) x21).put (some 22) x22).put (some 11) x11) ∧ InvP w2 (.slice sa s.length sc) (.slice la l.length lc) l vd b0 b1 b2 b3 b4 b5 b6 x18 x19 x20 x21 x22 x11 W) (by kernel_rfl) (by kernel_rfl) ?size ?start ⟨?op0, ?op1, ?op2, ?op3, ?op4, ?op5, ?op6, trivial⟩ ?last
    case size =>
      intro _ _ _ h
      obtain ⟨b0, b1, b2, b3, b4, b5, b6, x18, x19, x20, x21, x22, x11, rfl, rfl, _⟩ := h
      rfl
    case start =>
      exact ⟨false, false, false, false, false, false, false, _, _, _, _, _, _, rfl, (put_back (put_back (put_back (put_back (put_back (put_back rfl)))))), ⟨HL0, by simp, by simp, by simp, by simp, by simp, by simp, by simp, by simp, by simp, by simp⟩⟩
    case op0 =>
      refine InvOp.pass rfl fun il ia W h hl hd K hK0 => ?_
      obtain ⟨b0, b1, b2, b3, b4, b5, b6, x18, x19, x20, x21, x22, x11, rfl, rfl, hJ⟩ := h
      have hb : b0 = false := hl
      subst hb
      clear hl
      have hK := fun (x18' x19' x20' x21' x22' x11' : Value) (W' : World) h => hK0 _ W' ⟨true, b1, b2, b3, b4, b5, b6, x18', x19', x20', x21', x22', x11', rfl, rfl, h⟩
      clear hK0 hd
      simp only [Act.put, List.setIfInBounds_toArray, List.set_cons_succ, List.set_cons_zero] at hK ⊢
      have k0 := hJ.hl.out.cell (cell_of_blk HSB.out (show (#[.slice sa s.length sc] : Array Value)[0]? = some (.slice sa s.length sc) from rfl))
      go_simp
      exact hK _ _ _ _ _ _ _ { hJ with g0 := fun _ => rfl }
    case op1 =>
      refine InvOp.pass rfl fun il ia W h hl hd K hK0 => ?_
      obtain ⟨b0, b1, b2, b3, b4, b5, b6, x18, x19, x20, x21, x22, x11, rfl, rfl, hJ⟩ := h
      have hb : b1 = false := hl
      subst hb
      clear hl
      have hK := fun (x18' x19' x20' x21' x22' x11' : Value) (W' : World) h => hK0 _ W' ⟨b0, true, b2, b3, b4, b5, b6, x18', x19', x20', x21', x22', x11', rfl, rfl, h⟩
      clear hK0 hd
      simp only [Act.put, List.setIfInBounds_toArray, List.set_cons_succ, List.set_cons_zero] at hK ⊢
      go_simp
      exact hK _ _ _ _ _ _ _ { hJ with g1 := fun _ => rfl }
    case op2 =>
      refine InvOp.pass rfl fun il ia W h hl hd K hK0 => ?_
      obtain ⟨b0, b1, b2, b3, b4, b5, b6, x18, x19, x20, x21, x22, x11, rfl, rfl, hJ⟩ := h
      have hb : b2 = false := hl
      subst hb
      clear hl
      have hb : b1 = true := hd _ (.head _) rfl
      subst hb
      have hK := fun (x18' x19' x20' x21' x22' x11' : Value) (W' : World) h => hK0 _ W' ⟨b0, true, true, b3, b4, b5, b6, x18', x19', x20', x21', x22', x11', rfl, rfl, h⟩
      clear hK0 hd
      simp only [Act.put, List.setIfInBounds_toArray, List.set_cons_succ, List.set_cons_zero] at hK ⊢
      obtain rfl := hJ.g1 rfl
      obtain rfl : b6 = false := by cases b6 with
        | false => rfl
        | true => exact absurd (hJ.d62 rfl) (by simp)
      obtain rfl : b4 = false := by cases b4 with
        | false => rfl
        | true => exact absurd (hJ.d42 rfl) (by simp)
      go_simp
      go_at_call 82
      refine (HSRT.out W hJ.hl.out).mono ?_
      rintro e w6 ⟨⟨v6, rfl, ho6⟩, hb6⟩
      have hm6 := more_of hb6
      go_simp
      exact hK _ _ _ _ _ _ _ { hJ with g2 := fun _ => Lib.hid (owns_base ho6 hJ.hl.out.size), g4 := fun h => (by cases h), g6 := fun h => (by cases h), d62 := fun h => (by cases h), d42 := fun h => (by cases h), d65 := fun h => (by cases h), hl := Lib.hid (more_trans hJ.hl.out hm6), g5 := fun hb => (by obtain ⟨EB, e, h1, h2⟩ := (hJ.g5 hb); exact ⟨EB, e, h1, fun h => Lib.hid ((hm6.block (blk_lt (h2 h).out)).trans (h2 h).out)⟩) }
    case op3 =>
      refine InvOp.pass rfl fun il ia W h hl hd K hK0 => ?_
      obtain ⟨b0, b1, b2, b3, b4, b5, b6, x18, x19, x20, x21, x22, x11, rfl, rfl, hJ⟩ := h
      have hb : b3 = false := hl
      subst hb
      clear hl
      have hK := fun (x18' x19' x20' x21' x22' x11' : Value) (W' : World) h => hK0 _ W' ⟨b0, b1, b2, true, b4, b5, b6, x18', x19', x20', x21', x22', x11', rfl, rfl, h⟩
      clear hK0 hd
      simp only [Act.put, List.setIfInBounds_toArray, List.set_cons_succ, List.set_cons_zero] at hK ⊢
      go_simp
      exact hK _ _ _ _ _ _ _ { hJ with g3 := fun _ => rfl }
    case op4 =>
      refine InvOp.pass rfl fun il ia W h hl hd K hK0 => ?_
      obtain ⟨b0, b1, b2, b3, b4, b5, b6, x18, x19, x20, x21, x22, x11, rfl, rfl, hJ⟩ := h
      have hb : b4 = false := hl
      subst hb
      clear hl
      have hb : b0 = true := hd _ (.head _) rfl
      subst hb
      have hb : b2 = true := hd _ (.tail _ (.head _)) rfl
      subst hb
      have hb : b3 = true := hd _ (.tail _ (.tail _ (.head _))) rfl
      subst hb
      have hK := fun (x18' x19' x20' x21' x22' x11' : Value) (W' : World) h => hK0 _ W' ⟨true, b1, true, true, true, b5, b6, x18', x19', x20', x21', x22', x11', rfl, rfl, h⟩
      clear hK0 hd
      simp only [Act.put, List.setIfInBounds_toArray, List.set_cons_succ, List.set_cons_zero] at hK ⊢
      obtain rfl := hJ.g0 rfl
      obtain rfl := hJ.g3 rfl
      have HO := hJ.g2 rfl
      obtain ⟨ra, rc, rfl, _⟩ := owns_shape HO.out
      go_simp
      exact hK _ _ _ _ _ _ _ { hJ with g4 := fun _ => rfl, d42 := fun _ => rfl }
    case op5 =>
      refine InvOp.pass rfl fun il ia W h hl hd K hK0 => ?_
      obtain ⟨b0, b1, b2, b3, b4, b5, b6, x18, x19, x20, x21, x22, x11, rfl, rfl, hJ⟩ := h
      have hb : b5 = false := hl
      subst hb
      clear hl
      have hK := fun (x18' x19' x20' x21' x22' x11' : Value) (W' : World) h => hK0 _ W' ⟨b0, b1, b2, b3, b4, true, b6, x18', x19', x20', x21', x22', x11', rfl, rfl, h⟩
      clear hK0 hd
      simp only [Act.put, List.setIfInBounds_toArray, List.set_cons_succ, List.set_cons_zero] at hK ⊢
      obtain rfl : b6 = false := by cases b6 with
        | false => rfl
        | true => exact absurd (hJ.d65 rfl) (by simp)
      go_simp
      exact hK _ _ _ _ _ _ _ { hJ with g5 := fun _ => ⟨W.heap.size, rfl, hJ.hl.out.size, fun _ => Lib.hid (alloc_last _ _)⟩, g6 := fun h => (by cases h), d62 := fun h => (by cases h), d65 := fun h => (by cases h), hl := Lib.hid (more_trans hJ.hl.out (more_alloc W _)), g2 := fun hb => Lib.hid (owns_keep (hJ.g2 hb).out (fun z hz => (more_alloc W _).block ((owns_shape (hJ.g2 hb).out).choose_spec.choose_spec.2 z hz).2)) }
    case op6 =>
      refine InvOp.pass rfl fun il ia W h hl hd K hK0 => ?_
      obtain ⟨b0, b1, b2, b3, b4, b5, b6, x18, x19, x20, x21, x22, x11, rfl, rfl, hJ⟩ := h
      have hb : b6 = false := hl
      subst hb
      clear hl
      have hb : b5 = true := hd _ (.head _) rfl
      subst hb
      have hb : b4 = true := hd _ (.tail _ (.head _)) rfl
      subst hb
      have hb : b2 = true := hd _ (.tail _ (.tail _ (.head _))) rfl
      subst hb
      have hb : b0 = true := hd _ (.tail _ (.tail _ (.tail _ (.head _)))) rfl
      subst hb
      have hb : b1 = true := hd _ (.tail _ (.tail _ (.tail _ (.tail _ (.head _))))) rfl
      subst hb
      have hb : b3 = true := hd _ (.tail _ (.tail _ (.tail _ (.tail _ (.tail _ (.tail _ (.head _))))))) rfl
      subst hb
      have hK := fun (x18' x19' x20' x21' x22' x11' : Value) (W' : World) h => hK0 _ W' ⟨true, true, true, true, true, true, true, x18', x19', x20', x21', x22', x11', rfl, rfl, h⟩
      clear hK0 hd
      simp only [Act.put, List.setIfInBounds_toArray, List.set_cons_succ, List.set_cons_zero] at hK ⊢
      obtain ⟨EB, rfl, hEB, hz⟩ := hJ.g5 rfl
      have HZ := hz rfl
      obtain rfl := hJ.g4 rfl
      have HO := hJ.g2 rfl
      obtain ⟨ra, rc, rfl, _⟩ := owns_shape HO.out
      have z0 : W.cell? ⟨EB, 0, none⟩ = some (.slice none 0 0) := cell_of_blk HZ.out rfl
      have z1 : W.cell? ⟨EB, 1, none⟩ = some (.slice none 0 0) := cell_of_blk HZ.out rfl
      have z2 : W.cell? ⟨EB, 2, none⟩ = some (.slice none 0 0) := cell_of_blk HZ.out rfl
      have z3 : W.cell? ⟨EB, 3, none⟩ = some (.bool false) := cell_of_blk HZ.out rfl
      have f0 := thaw HZ.out 0
      have f1 := thaw HZ.out 1
      have f2 := thaw HZ.out 2
      have f3 := thaw HZ.out 3
      have hne : ∀ y, (Value.slice ra l.length rc).ownBlock = some y → y ≠ EB := fun y hy e => by
        subst e
        obtain ⟨_, ⟨h0, _⟩ | ⟨g, cap, cur, h0, _, h3, _⟩⟩ := HO.out
        · rw [h0] at hy; simp [Value.ownBlock] at hy
        · rw [h0] at hy
          have : g = y := by simpa [Value.ownBlock] using hy
          subst this
          rw [HZ.out] at h3; simp at h3
      go_simp
      exact hK _ _ _ _ _ _ _ { hJ with hl := Lib.hid (moreSetC hJ.hl.out (B := EB) (o := 0) hEB [_, _, _, _]), g2 := fun _ => Lib.hid (owns_keep HO.out (fun y hy => setC_block W EB 0 [_, _, _, _] (hne y hy))), g4 := fun _ => rfl, g5 := fun _ => ⟨EB, rfl, hEB, fun h => (by cases h)⟩, g6 := fun _ => ⟨EB, rfl, hEB, Lib.hid (setCell_heap (setCell_heap (setCell_heap (setCell_heap HZ.out))))⟩, d62 := fun _ => rfl, d65 := fun _ => rfl, d42 := fun _ => rfl }
    case last =>
      intro il ia W h hall
      obtain ⟨b0, b1, b2, b3, b4, b5, b6, x18, x19, x20, x21, x22, x11, rfl, rfl, hJ⟩ := h
      simp only [Act.put, List.setIfInBounds_toArray, List.set_cons_succ, List.set_cons_zero]
      have hb : b0 = true := hall 0 (Nat.le_of_ble_eq_true rfl)
      subst hb
      have hb : b1 = true := hall 1 (Nat.le_of_ble_eq_true rfl)
      subst hb
      have hb : b2 = true := hall 2 (Nat.le_of_ble_eq_true rfl)
      subst hb
      have hb : b3 = true := hall 3 (Nat.le_of_ble_eq_true rfl)
      subst hb
      have hb : b4 = true := hall 4 (Nat.le_of_ble_eq_true rfl)
      subst hb
      have hb : b5 = true := hall 5 (Nat.le_of_ble_eq_true rfl)
      subst hb
      have hb : b6 = true := hall 6 (Nat.le_of_ble_eq_true rfl)
      subst hb
      clear hall
      obtain ⟨EB, rfl, hEB, hblk⟩ := hJ.g6 rfl
      have HO := hJ.g2 rfl
      go_wp2_with fail
      go_meet
      exact ⟨EB, x20, rfl, Lib.hid hEB, hblk, HO, hJ.hl⟩

  case rest =>
    obtain ⟨EB, rv, rfl, HEB, HEBK, HRO, HMC⟩ := hcut
    clear HSRT0
    obtain ⟨ra, rc, rfl, _⟩ := owns_shape HRO.out
    obtain ⟨w4, rfl⟩ : ∃ w4 : World, w4 = wc := ⟨_, rfl⟩
    obtain ⟨N, HN⟩ : ∃ N, Hid (N = w4.heap.size) := ⟨_, Lib.hid rfl⟩
    have hkl := HLEN.out.2.2
    have HUP := Lib.hid (show ∀ W, w4.grownBy W (some EB) → More w2 W from fun W h => moreGrown HMC.out h (fun b e => by cases e; exact HEB.out))
    go_wp2_with fail
    go_loopw [25] (fun i wr => ∃ j : Nat, j ≤ ks.length ∧ i = .int .i64 j ∧ Hid (w4.grownBy wr (some EB)) ∧ Hid (∃ uv, wr.heap[EB]? = some (.cells #[.slice sa s.length sc, .slice ra l.length rc, uv, .bool vd] 148) ∧ wr.ownsRow N 113 7 uv j (flatC chC (usL s (ks.take j))))) (fun i _ => ks.length - (intOf i).toNat)
    case atStart => exact ⟨0, Nat.zero_le _, rfl, Lib.hid (World.grownBy.refl _ _), Lib.hid ⟨_, HEBK.out, World.ownsRow_nil _ _ _ _⟩⟩
    case round =>
      obtain ⟨j, hj, rfl, HG, HU⟩ := hrel
      obtain ⟨uv, hu1, hu2⟩ := HU.out
      obtain ⟨ua, uc, rfl, _⟩ := owns_shape hu2
      have HBK := Lib.hid hu1
      have HUO := Lib.hid hu2
      clear hu1 hu2 HU
      have HMW := Lib.hid (more_trans HM2.out (HUP.out wr HG.out))
      have HNW := Lib.hid (show N ≤ wr.heap.size by rw [HN.out]; exact HG.out.size)
      have HEN := Lib.hid (show EB < N by rw [HN.out]; exact blk_lt HEBK.out)
      have HSBr := Lib.hid (((HUP.out wr HG.out).block (blk_lt HSB.out)).trans HSB.out)
      by_cases hlt : j < ks.length
      · obtain ⟨b, off, rfl, _, hc⟩ := HK.out.atC kC_len hlt
        have g0 := HMW.out.cell (hc 0 (.int .u8 ks[j].kind) rfl)
        have g1 := HMW.out.cell (hc 1 (.int .i64 ks[j].a) rfl)
        have g2 := HMW.out.cell (hc 2 (.int .i64 ks[j].b) rfl)
        have g3 := HMW.out.cell (hc 3 (.int .i64 ks[j].n) rfl)
        rw [Nat.add_zero] at g0
        clear hc
        obtain ⟨x, hx1, hx2⟩ := HIN.out ks[j] (List.getElem_mem hlt)
        have HGC := Lib.hid (show getC s ks[j] = some x by rw [← hx2]; exact HA.out.get hx1)
        have HUS := Lib.hid (show usL s (ks.take (j + 1)) = usL s (ks.take j) ++ [x] by
          unfold usL
          rw [List.take_succ_eq_append_getElem hlt, List.map_append, List.map_singleton, HGC.out]; rfl)
        have HGET := Lib.hid (show ∀ W, More w W → Calls Try.prog 83 #[.agg #[.slice sa s.length sc], .agg #[.int .u8 ks[j].kind, .int .i64 ks[j].a, .int .i64 ks[j].b, .int .i64 ks[j].n]] W fun e w' => e = .returned (.tuple #[.agg #[.int .u8 x.k.kind, .int .i64 x.k.a, .int .i64 x.k.b, .int .i64 x.k.n, .int .i64 x.t, .int .i64 0, .slice none 0 0], .bool true]) ∧ Lay W w' from fun W hW => by
          have := get_any s ks[j] (.slice sa s.length sc) W (by have := HLEN.out.1; omega) HA.out ((HS.out.mono (S' := anyB) (fun _ _ => trivial) (fun _ _ _ _ h => h)).below hW.below)
          rw [HGC.out] at this; exact this)
        clear hx1 hx2
        generalize ks[j] = k at *
        have hbg := cell_lt g0
        have HKB := Lib.hid (alloc_last wr (.cells #[.int .u8 k.kind, .int .i64 k.a, .int .i64 k.b, .int .i64 k.n] 48))
        have HMK := Lib.hid (more_alloc wr (.cells #[.int .u8 k.kind, .int .i64 k.a, .int .i64 k.b, .int .i64 k.n] 48))
        have HST := Lib.hid (show ∀ W, More wr W → w4.grownBy W (some EB) ∧ N ≤ W.heap.size ∧ W.heap[EB]? = some (.cells #[.slice sa s.length sc, .slice ra l.length rc, .slice ua j uc, .bool vd] 148) ∧ W.ownsRow N 113 7 (.slice ua j uc) j (flatC chC (usL s (ks.take j))) ∧ W.heap[SB]? = some (.cells #[.slice sa s.length sc] 73) from fun W h => ⟨grownBy_more HG.out h, Nat.le_trans HNW.out h.size, (h.block (blk_lt HBK.out)).trans HBK.out, owns_keep HUO.out (fun z hz => h.block ((owns_shape HUO.out).choose_spec.choose_spec.2 z hz).2), (h.block (blk_lt HSBr.out)).trans HSBr.out⟩)
        have hlt' := hlt
        go_upto_region 7 with (fail)
        clear g0 g1 g2 g3 hbg
        generalize wr.alloc (.cells #[.int .u8 k.kind, .int .i64 k.a, .int .i64 k.b, .int .i64 k.n] 48) = w5 at *
        generalize wr.heap.size = KB at *
        have c0 : w5.cell? ⟨KB, 0, none⟩ = some (.int .u8 k.kind) := cell_of_blk HKB.out rfl
        have c1 : w5.cell? ⟨KB, 1, none⟩ = some (.int .i64 k.a) := cell_of_blk HKB.out rfl
        have c2 : w5.cell? ⟨KB, 2, none⟩ = some (.int .i64 k.b) := cell_of_blk HKB.out rfl
        have c3 : w5.cell? ⟨KB, 3, none⟩ = some (.int .i64 k.n) := cell_of_blk HKB.out rfl
        have s0 : w5.cell? ⟨SB, 0, none⟩ = some (.slice sa s.length sc) := cell_of_blk (HST.out _ HMK.out).2.2.2.2 rfl
        have hkb := cell_lt c0
        have hsb := cell_lt s0
        go_wp2_with fail
        refine (HGET.out _ (more_trans HMW.out HMK.out)).mono ?_
        rintro e w6 ⟨rfl, hl6⟩
        have HXB := Lib.hid (alloc_last w6 (.cells #[.int .u8 x.k.kind, .int .i64 x.k.a, .int .i64 x.k.b, .int .i64 x.k.n, .int .i64 x.t, .int .i64 0, .slice none 0 0] 113))
        have HM7 := Lib.hid (more_trans HMK.out (more_trans hl6.1 (more_alloc w6 (.cells #[.int .u8 x.k.kind, .int .i64 x.k.a, .int .i64 x.k.b, .int .i64 x.k.n, .int .i64 x.t, .int .i64 0, .slice none 0 0] 113))))
        clear hl6 c0 c1 c2 c3 s0 hkb hsb
        go_upto_region 10 with (fail)
        generalize w6.alloc (.cells #[.int .u8 x.k.kind, .int .i64 x.k.a, .int .i64 x.k.b, .int .i64 x.k.n, .int .i64 x.t, .int .i64 0, .slice none 0 0] 113) = w7 at *
        generalize w6.heap.size = XB at *
        have HT := Lib.hid (HST.out _ HM7.out)
        have c0 : w7.cell? ⟨XB, 0, none⟩ = some (.int .u8 x.k.kind) := cell_of_blk HXB.out rfl
        have c1 : w7.cell? ⟨XB, 1, none⟩ = some (.int .i64 x.k.a) := cell_of_blk HXB.out rfl
        have c2 : w7.cell? ⟨XB, 2, none⟩ = some (.int .i64 x.k.b) := cell_of_blk HXB.out rfl
        have c3 : w7.cell? ⟨XB, 3, none⟩ = some (.int .i64 x.k.n) := cell_of_blk HXB.out rfl
        have c4 : w7.cell? ⟨XB, 4, none⟩ = some (.int .i64 x.t) := cell_of_blk HXB.out rfl
        have c5 : w7.cell? ⟨XB, 5, none⟩ = some (.int .i64 0) := cell_of_blk HXB.out rfl
        have c6 : w7.cell? ⟨XB, 6, none⟩ = some (.slice none 0 0) := cell_of_blk HXB.out rfl
        have u0 : w7.cell? ⟨EB, 2, none⟩ = some (.slice ua j uc) := cell_of_blk HT.out.2.2.1 rfl
        have hub := cell_lt u0
        have hxb := cell_lt c0
        have HOZ := Lib.hid (fun z hz => ((owns_shape HT.out.2.2.2.1).choose_spec.choose_spec.2 z hz))
        have HNX := Lib.hid (show (Value.slice ua j uc).ownBlock ≠ some EB from fun e => by have := (HOZ.out _ e).1; have := HEN.out; omega)
        have hm1 : j + 1 ≤ maxLen := by unfold maxLen; omega
        have hm2 : (j + 1) * 72 ≤ 140737488355328 := by omega
        have hnd := HT.out.2.1
        have HBA := Lib.hid ((Below.heap_alloc w7 (.cells #[.int .u8 x.k.kind, .int .i64 x.k.a, .int .i64 x.k.b, .int .i64 x.k.n, .int .i64 x.t, .int .i64 0, .slice none 0 0] 113) EB (blk_lt HT.out.2.2.1)).trans HT.out.2.2.1)
        go_wp2_with (at_builtin; refine wpList_append_own _ rfl _ _ 71 rfl N 113 i0 _ 7 72 Try.underlying71 hi0 hz0 hz1 hz2 rfl (by omega) (.slice ua j uc) j (flatC chC (usL s (ks.take j))) rfl (owns_keep HT.out.2.2.2.1 (fun z hz => Below.heap_alloc w7 _ _ (HOZ.out z hz).2)) ⟨w7.heap.size, 0, none⟩ 1 1 [.int .u8 x.k.kind, .int .i64 x.k.a, .int .i64 x.k.b, .int .i64 x.k.n, .int .i64 x.t, .int .i64 0, .slice none 0 0] rfl rfl (World.news_of_block (cs := #[.int .u8 x.k.kind, .int .i64 x.k.a, .int .i64 x.k.b, .int .i64 x.k.n, .int .i64 x.t, .int .i64 0, .slice none 0 0]) (t := 113) (fr := (0, 0)) (alloc_last _ _)) (by simp [Value.oneCell']) hm1 hm2 (by rw [World.size_alloc]; omega) ?_; intro v8 w8 hown8 hgrow8 _; obtain ⟨ua8, uc8, rfl, _⟩ := owns_shape hown8; have HB8 := Lib.hid ((hgrow8.block EB (blk_lt HBA.out) (fun e => HNX.out e.symm)).trans HBA.out); have p5 : w8.cell? ⟨EB, 2, none⟩ = some (.slice ua j uc) := cell_of_blk HB8.out rfl; have q5 := thaw HB8.out 2)
        have HO8 := Lib.hid (show w8.ownsRow N 113 7 (.slice ua8 (j + 1) uc8) (j + 1) (flatC chC (usL s (ks.take (j + 1)))) by rw [HUS.out, flatC_push]; exact hown8)
        have HG8 := Lib.hid (show w4.grownBy w8 (some EB) from by
          have hg := hgrow8
          have h0 := grownBy_more HT.out.1 (more_alloc w7 (.cells #[.int .u8 x.k.kind, .int .i64 x.k.a, .int .i64 x.k.b, .int .i64 x.k.n, .int .i64 x.t, .int .i64 0, .slice none 0 0] 113))
          refine ⟨hg.os.trans h0.os, hg.tape.trans h0.tape, hg.output.trans h0.output, Nat.le_trans h0.size hg.size, fun b hb he => ?_⟩
          have hb' : b < N := by rw [HN.out]; exact hb
          exact (hg.block b (Nat.lt_of_lt_of_le hb h0.size) (fun e => by have := (HOZ.out b e.symm).1; omega)).trans (h0.block b hb he))
        clear hown8 hgrow8 c0 c1 c2 c3 c4 c5 c6 u0 hub hxb p5 q5
        go_wp2_with fail
        go_roundw
        case rel =>
          refine ⟨j + 1, by omega, by go_num, Lib.hid ?_, Lib.hid ⟨.slice ua8 (j + 1) uc8, setCell_heap HB8.out, owns_keep HO8.out (fun y hy => Below.heap_setCell _ _ _ _ (by have h1 := ((owns_shape HO8.out).choose_spec.choose_spec.2 y hy).1; have h2 := HEN.out; show y ≠ EB; omega))⟩⟩
          have hg := HG8.out
          exact ⟨hg.os, hg.tape, hg.output, by simpa using hg.size, fun b hb he => (Below.heap_setCell _ _ _ _ (show b ≠ EB from fun e => he (by rw [e]))).trans (hg.block b hb he)⟩
        case measure => simp [intOf]; omega
      · obtain rfl : j = ks.length := by omega
        rw [List.take_of_length_le (Nat.le_refl _)] at HUO
        have HRZ := Lib.hid (show ∀ z, (Value.slice ra l.length rc).ownBlock = some z → z ≠ EB from fun z hz e => by
          subst e
          obtain ⟨_, ⟨h0, _⟩ | ⟨g, cap, cur, h0, _, h3, _⟩⟩ := HRO.out
          · rw [h0] at hz; simp [Value.ownBlock] at hz
          · rw [h0] at hz
            have : g = z := by simpa [Value.ownBlock] using hz
            subst this
            rw [HEBK.out] at h3; simp at h3)
        have HRR := Lib.hid (owns_keep HRO.out (fun z hz => HG.out.block z ((owns_shape HRO.out).choose_spec.choose_spec.2 z hz).2 (fun e => HRZ.out z hz (Option.some.inj e))))
        have HRW := Lib.hid ((Row.of_owns HRR.out).mono (S' := anyB) (fun _ _ => trivial) (fun _ _ _ _ h => h))
        have e1 : wr.cell? ⟨EB, 1, none⟩ = some (.slice ra l.length rc) := cell_of_blk HBK.out rfl
        have heb := cell_lt e1
        have HCLN := Lib.hid (show Calls Try.prog 81 #[.slice ra l.length rc] wr fun e w' => (∃ v', e = .returned v' ∧ w'.ownsRow wr.heap.size 54 3 v' l.length (flatC mC (srtM l))) ∧ Below wr.heap.size wr w' from by
          have := cloneM_own (srtM l) (.slice ra l.length rc) wr (by rw [srtM_len]; have := HLEN.out.2.1; omega) (by rw [srtM_len]; exact HRW.out) (owns_nil HRR.out)
          rw [srtM_len] at this; exact this)
        clear hlt hj
        go_wp2_with fail
        refine HCLN.out.mono ?_
        rintro e w6 ⟨⟨v6, rfl, ho6⟩, hb6⟩
        obtain ⟨va, vc, rfl, _⟩ := owns_shape ho6
        have HM6 := Lib.hid (more_of hb6)
        have HCP := Lib.hid (show Calls Try.prog 84 #[.slice va l.length vc] w6 fun e w' => e = .returned (.slice va l.length vc) ∧ Lay w6 w' from compact_any (srtM l) (.slice va l.length vc) w6 (by rw [srtM_len]; have := HLEN.out.2.1; omega) HNE.out (by rw [srtM_len]; exact (Row.of_owns ho6).mono (fun _ _ => trivial) (fun _ _ _ _ h => h)))
        clear ho6 hb6 e1 heb
        go_wp2_with fail
        refine HCP.out.mono ?_
        rintro e w9 ⟨rfl, hl9⟩
        have HM9 := Lib.hid (more_trans HM6.out hl9.1)
        clear hl9 HM6
        have HMW9 := Lib.hid (more_trans HMW.out HM9.out)
        have HE9 := Lib.hid ((HM9.out.block (blk_lt HBK.out)).trans HBK.out)
        have HC9 := Lib.hid (HC.out.below HMW9.out.below)
        obtain ⟨ca, cc, rfl⟩ := HC9.out.shape
        have HNCB := Lib.hid (show EB ≠ CB from fun e => by have := HC.out.cb; have := HMM.out.1; have := HEB.out; have := HM2.out.size; omega)
        have HNOB := Lib.hid (show (Value.slice ca E.length cc).ownBlock ≠ some EB from fun e => by have := HC9.out.lt _ e; have := HMM.out.1; have := HEB.out; have := HM2.out.size; omega)
        have HOM := Lib.hid (fun z hz => ((owns_shape HC9.out.own).choose_spec.choose_spec.2 z hz))
        have x0 : w9.cell? ⟨CB, 1, none⟩ = some (.slice ca E.length cc) := cell_of_blk HC9.out.blk rfl
        have f0 := thaw HC9.out.blk 1
        have hcb := cell_lt x0
        have HA1 := Lib.hid (show (w9.alloc (.cells #[.slice sa s.length sc, .slice ra l.length rc, .slice ua ks.length uc, .bool vd] 148)).drew.heap[EB]? = some (.cells #[.slice sa s.length sc, .slice ra l.length rc, .slice ua ks.length uc, .bool vd] 148) from (Below.heap_alloc w9 _ EB (blk_lt HE9.out)).trans HE9.out)
        have HKC := Lib.hid (show ∀ W : World, W.heap[EB]? = some (.cells #[.slice sa s.length sc, .slice ra l.length rc, .slice ua ks.length uc, .bool vd] 148) → (W.cell? ⟨EB, 0, none⟩ = some (.slice sa s.length sc) ∧ W.cell? ⟨EB, 1, none⟩ = some (.slice ra l.length rc) ∧ W.cell? ⟨EB, 2, none⟩ = some (.slice ua ks.length uc) ∧ W.cell? ⟨EB, 3, none⟩ = some (.bool vd)) from fun W h => ⟨cell_of_blk h rfl, cell_of_blk h rfl, cell_of_blk h rfl, cell_of_blk h rfl⟩)
        have HE9d := Lib.hid (show w9.drew.heap[EB]? = some (.cells #[.slice sa s.length sc, .slice ra l.length rc, .slice ua ks.length uc, .bool vd] 148) from HE9.out)
        have HOA := Lib.hid (owns_keep (w' := (w9.alloc (.cells #[.slice sa s.length sc, .slice ra l.length rc, .slice ua ks.length uc, .bool vd] 148)).drew) HC9.out.own (fun z hz => Below.heap_alloc w9 _ _ (HOM.out z hz).2))
        have x0d : w9.drew.cell? ⟨CB, 1, none⟩ = some (.slice ca E.length cc) := x0
        have x0a : (w9.alloc (.cells #[.slice sa s.length sc, .slice ra l.length rc, .slice ua ks.length uc, .bool vd] 148)).drew.cell? ⟨CB, 1, none⟩ = some (.slice ca E.length cc) := alloc_cell (.cells #[.slice sa s.length sc, .slice ra l.length rc, .slice ua ks.length uc, .bool vd] 148) x0
        have HNX := Lib.hid (show (Value.slice ca E.length cc).ownBlock ≠ some CB from fun e => by have := (HOM.out _ e).1; omega)
        obtain ⟨i3, hi3, hy0, hy1, hy2⟩ := info_parts info148
        have hm1 : E.length + 1 ≤ maxLen := by unfold maxLen; have := HLIM.out.2; omega
        have hm2 : (E.length + 1) * 80 ≤ 140737488355328 := by have := HLIM.out.2; omega
        have HBS := Lib.hid (show CB + 1 ≤ (w9.alloc (.cells #[.slice sa s.length sc, .slice ra l.length rc, .slice ua ks.length uc, .bool vd] 148)).drew.heap.size from by show CB + 1 ≤ (w9.alloc _).heap.size; rw [World.size_alloc]; omega)
        go_upto_region 14 with (fail)
        refine wp_region_held_drew (S := fun W => W.cell? ⟨EB, 0, none⟩ = some (.slice sa s.length sc) ∧ W.cell? ⟨EB, 1, none⟩ = some (.slice ra l.length rc) ∧ W.cell? ⟨EB, 2, none⟩ = some (.slice ua ks.length uc) ∧ W.cell? ⟨EB, 3, none⟩ = some (.bool vd)) (by kernel_rfl) (HKC.out _ HE9d.out) (fun hHeld => ?_)
        refine wpAnyH_take (i := 0) (v := ?_) (by simp only [List.getElem?_toArray, List.getElem?_cons_zero]; exact rfl) (by kernel_rfl) (by kernel_rfl) (by kernel_rfl) (by exact fun _ _ _ h => h) (Or.inl ⟨by rfl, ?_⟩) (by assumption) ?_
        rotate_left
        · (intro w hSw; (try dsimp only at hSw); first | (go_simp; done) | (go_simp; with_reducible rfl))
        try simp only [Act.put, List.setIfInBounds_toArray, List.set_cons_zero, List.set_cons_succ]
        refine wpAnyH_take (i := 1) (v := ?_) (by simp only [List.getElem?_toArray, List.getElem?_cons_succ, List.getElem?_cons_zero]; exact rfl) (by kernel_rfl) (by kernel_rfl) (by kernel_rfl) (by exact fun _ _ _ h => h) (Or.inl ⟨by rfl, ?_⟩) (by assumption) ?_
        rotate_left
        · (intro w hSw; (try dsimp only at hSw); first | (go_simp; done) | (go_simp; with_reducible rfl))
        try simp only [Act.put, List.setIfInBounds_toArray, List.set_cons_zero, List.set_cons_succ]
        refine wpAnyH_take (i := 2) (v := ?_) (by simp only [List.getElem?_toArray, List.getElem?_cons_succ, List.getElem?_cons_zero]; exact rfl) (by kernel_rfl) (by kernel_rfl) (by kernel_rfl) (by exact fun _ _ _ h => h) (Or.inl ⟨by rfl, ?_⟩) (by assumption) ?_
        rotate_left
        · (intro w hSw; (try dsimp only at hSw); first | (go_simp; done) | (go_simp; with_reducible rfl))
        try simp only [Act.put, List.setIfInBounds_toArray, List.set_cons_zero, List.set_cons_succ]
        refine wpAnyH_take (i := 3) (v := ?_) (by simp only [List.getElem?_toArray, List.getElem?_cons_succ, List.getElem?_cons_zero]; exact rfl) (by kernel_rfl) (by kernel_rfl) (by kernel_rfl) (by exact fun _ _ _ h => h) (Or.inl ⟨by rfl, ?_⟩) (by assumption) ?_
        rotate_left
        · (intro w hSw; (try dsimp only at hSw); first | (go_simp; done) | (go_simp; with_reducible rfl))
        try simp only [Act.put, List.setIfInBounds_toArray, List.set_cons_zero, List.set_cons_succ]
        refine wpAnyH_take (i := 5) (v := ?_) (by simp only [List.getElem?_toArray, List.getElem?_cons_succ, List.getElem?_cons_zero]; exact rfl) (by kernel_rfl) (by kernel_rfl) (by kernel_rfl) (by exact fun _ _ _ h => h) (Or.inl ⟨by rfl, ?_⟩) (by assumption) ?_
        rotate_left
        · (intro w hSw; (try dsimp only at hSw); first | (go_simp; done) | (go_simp; with_reducible rfl))
        try simp only [Act.put, List.setIfInBounds_toArray, List.set_cons_zero, List.set_cons_succ]
        refine wpAnyH_ready (rs := [4, 6]) (by kernel_rfl) (by simp) ?_
        refine AllReadyH.cons (by simp only [List.getElem?_toArray, List.getElem?_cons_succ, List.getElem?_cons_zero]; exact rfl) (fun K hK => ?_) (AllReadyH.cons (by simp only [List.getElem?_toArray, List.getElem?_cons_succ, List.getElem?_cons_zero]; exact rfl) (fun K hK => ?_) AllReadyH.nil)
        · rw [if_pos (by rfl)]
          go_simp
          refine hK.out _ _ (HKC.out _ HE9d.out) (fun hHeld => ?_)
          clear hK K
          try simp only [Act.put, List.setIfInBounds_toArray, List.set_cons_zero, List.set_cons_succ]
          refine wpAnyH_ready (rs := [6]) (by kernel_rfl) (by simp) ?_
          refine AllReadyH.cons (by simp only [List.getElem?_toArray, List.getElem?_cons_succ, List.getElem?_cons_zero]; exact rfl) (fun K hK => ?_) AllReadyH.nil
          rw [if_pos (by rfl)]
          go_simp
          refine hK.out _ _ (HKC.out _ HA1.out) (fun hHeld => ?_)
          clear hK K
          try simp only [Act.put, List.setIfInBounds_toArray, List.set_cons_zero, List.set_cons_succ]
          refine wpAnyH_ready (rs := [7]) (by kernel_rfl) (by simp) ?_
          refine AllReadyH.cons (by simp only [List.getElem?_toArray, List.getElem?_cons_succ, List.getElem?_cons_zero]; exact rfl) (fun K hK => ?_) AllReadyH.nil
          rw [if_pos (by rfl)]
          refine wp_append_lies _ _ _ _ rfl (CB + 1) 148 i3 _ 4 80 Try.underlying144 hi3 hy0 hy1 hy2 rfl (by omega) (.slice ca E.length cc) E.length (flatC rC raw) rfl HOA.out ⟨w9.heap.size, 0, none⟩ 1 1 [.slice sa s.length sc, .slice ra l.length rc, .slice ua ks.length uc, .bool vd] rfl rfl (World.news_of_block (cs := #[.slice sa s.length sc, .slice ra l.length rc, .slice ua ks.length uc, .bool vd]) (t := 148) (fr := (0, 0)) (alloc_last w9 _)) (by simp [Value.oneCell']) (by omega) hm1 hm2 HBS.out (w9.heap.size + 1) (by simp) ?_
          intro gg cap6 w10 hown6 hgrow6 hat6 _
          have hXC := cell_of_blk ((hgrow6.block CB (Nat.lt_of_lt_of_le (blk_lt HC9.out.blk) (by simp)) (fun e => HNX.out e.symm)).trans ((Below.heap_alloc w9 (.cells #[.slice sa s.length sc, .slice ra l.length rc, .slice ua ks.length uc, .bool vd] 148) CB (blk_lt HC9.out.blk)).trans HC9.out.blk)) (show (#[.int .i64 lim, .slice ca E.length cc, .int .i64 hits] : Array Value)[1]? = some (.slice ca E.length cc) from rfl)
          have hXF := thaw ((hgrow6.block CB (Nat.lt_of_lt_of_le (blk_lt HC9.out.blk) (by simp)) (fun e => HNX.out e.symm)).trans ((Below.heap_alloc w9 (.cells #[.slice sa s.length sc, .slice ra l.length rc, .slice ua ks.length uc, .bool vd] 148) CB (blk_lt HC9.out.blk)).trans HC9.out.blk)) 1
          have HE10 := Lib.hid ((hgrow6.block EB (Nat.lt_of_lt_of_le (blk_lt HE9.out) (by simp)) (fun e => HNOB.out e.symm)).trans HA1.out)
          refine hK.out _ _ (HKC.out _ HE10.out) (fun hHeld => ?_)
          clear hK K
          try simp only [Act.put, List.setIfInBounds_toArray, List.set_cons_zero, List.set_cons_succ]
          refine wpAnyH_ready (rs := [8]) (by kernel_rfl) (by simp) ?_
          refine AllReadyH.cons (by simp only [List.getElem?_toArray, List.getElem?_cons_succ, List.getElem?_cons_zero]; exact rfl) (fun K hK => ?_) AllReadyH.nil
          rw [if_pos (by rfl)]
          go_simp
          refine hK.out _ _ (HKC.out _ HE10.out) (fun hHeld => ?_)
          clear hK K
          try simp only [Act.put, List.setIfInBounds_toArray, List.set_cons_zero, List.set_cons_succ]
          refine wpAnyH_ready (rs := [9]) (by kernel_rfl) (by simp) ?_
          refine AllReadyH.cons (by simp only [List.getElem?_toArray, List.getElem?_cons_succ, List.getElem?_cons_zero]; exact rfl) (fun K hK => ?_) AllReadyH.nil
          rw [if_pos (by rfl)]
          go_simp
          refine hK.out _ _ (HKC.out _ HE10.out) (fun hHeld => ?_)
          clear hK K
          try simp only [Act.put, List.setIfInBounds_toArray, List.set_cons_zero, List.set_cons_succ]
          refine wpAnyH_ready (rs := [10]) (by kernel_rfl) (by simp) ?_
          refine AllReadyH.cons (by simp only [List.getElem?_toArray, List.getElem?_cons_succ, List.getElem?_cons_zero]; exact rfl) (fun K hK => ?_) AllReadyH.nil
          rw [if_pos (by rfl)]
          go_simp
          refine hK.out _ _ (HKC.out _ ((Below.heap_setCell _ _ _ _ HNCB.out).trans HE10.out)) (fun hHeld => ?_)
          clear hK K
          try simp only [Act.put, List.setIfInBounds_toArray, List.set_cons_zero, List.set_cons_succ]
          refine wpAnyH_done (by kernel_rfl) ?_ _
          have HW1 := Lib.hid (show Below w9.heap.size w9 (w9.alloc (.cells #[.slice sa s.length sc, .slice ra l.length rc, .slice ua ks.length uc, .bool vd] 148)).drew from ((Below.refl w9.heap.size w9).alloc (Nat.le_refl _) (.cells #[.slice sa s.length sc, .slice ra l.length rc, .slice ua ks.length uc, .bool vd] 148)).trans (below_drewN _ 1 _))
          have HMW1 := Lib.hid (more_trans HM9.out (more_of HW1.out))
          have HMWW := Lib.hid (more_trans HMW.out HMW1.out)
          have HCB0 := Lib.hid (show CB < w.heap.size from blk_lt HC.out.blk)
          have HER := Lib.hid (show ERow (fun b => b ≠ CB ∧ (Value.slice ca E.length cc).ownBlock ≠ some b ∧ S0 b) (w9.alloc (.cells #[.slice sa s.length sc, .slice ra l.length rc, .slice ua ks.length uc, .bool vd] 148)).drew ((.slice sa s.length sc, .slice ra l.length rc, .slice ua ks.length uc), vd) ⟨s, srtM l, usL s ks, vd⟩ from
            ⟨(HS.out.below HMWW.out.below).mono (fun b hb => ⟨by have := HC.out.cb; omega, fun e => by have := HC9.out.lt _ e; omega, hb.2⟩) (fun _ _ _ _ h => h), by
              show Row _ _ 3 (srtM l).length _ _
              rw [srtM_len]
              exact ((Row.of_owns HRR.out).below HMW1.out.below).mono (fun b hb => by
                have h1 : w2.heap.size ≤ b := hb
                have h2 := HM2.out.size
                have h3 := HMM.out.1
                exact ⟨by have := HC.out.cb; omega, fun e => by have := HC9.out.lt _ e; omega, HMM.out.2 b (by omega)⟩) (fun _ _ _ _ h => h), by
              show Row _ _ 7 (usL s ks).length _ _
              rw [show (usL s ks).length = ks.length from List.length_map _]
              exact ((Row.of_owns HUO.out).below HMW1.out.below).mono (fun b hb => by
                have h1 : N ≤ b := hb
                have h2 := HM2.out.size
                have h3 := HMM.out.1
                have h4 := HMC.out.size
                rw [HN.out] at h1
                exact ⟨by have := HC.out.cb; omega, fun e => by have := HC9.out.lt _ e; omega, HMM.out.2 b (by omega)⟩) (fun _ _ _ _ h => h), rfl⟩)
          have HF := Lib.hid ((HC9.out.below HW1.out).push HER.out (e := ⟨s, srtM l, usL s ks, vd⟩) ⟨HA.out, by show s.length ≤ 1000; omega, by show (srtM l).length ≤ 1000; rw [srtM_len]; omega, by show (usL s ks).length ≤ 1000; rw [show (usL s ks).length = ks.length from List.length_map _]; omega⟩ (n := E.length + 1) rfl hown6 hgrow6 (by
            rcases hat6 with h | h
            · exact Or.inl h
            · right; rw [h]; show w9.heap.size + 1 = (w9.alloc _).heap.size; rw [World.size_alloc]))
          have HBF := Lib.hid (show Below CB w (w10.setCell ⟨CB, 1, none⟩ (.slice (some ⟨gg, 0, none⟩) (E.length + 1) cap6)) from ((HMWW.out.below.mono (Nat.le_of_lt HCB0.out)).grown hgrow6 (Nat.le_trans (Nat.le_succ _) HBS.out) (fun z hz => Nat.le_of_succ_le (HOM.out z hz).1)).setCell (Nat.le_refl _) _)
          have HSZ := Lib.hid (show (w10.setCell ⟨CB, 1, none⟩ (.slice (some ⟨gg, 0, none⟩) (E.length + 1) cap6)).heap.size = w10.heap.size by simp)
          clear hown6 hgrow6 hat6 hXC hXF x0 x0d x0a f0 hcb
          go_upto_region 15 with (fail)
          generalize w10.setCell ⟨CB, 1, none⟩ (.slice (some ⟨gg, 0, none⟩) (E.length + 1) cap6) = w11 at *
          have c0 : w11.cell? ⟨CB, 0, none⟩ = some (.int .i64 lim) := cell_of_blk HF.out.blk rfl
          have c1 : w11.cell? ⟨CB, 1, none⟩ = some (.slice (some ⟨gg, 0, none⟩) (E.length + 1) cap6) := cell_of_blk HF.out.blk rfl
          have hcb := cell_lt c0
          have hle := HLIM.out.1
          go_quiet (fail)
          go_wp2_with fail
          go_ret
          have h1 := HF.out.below (below_drewN w11 nq w11.heap.size)
          rw [← HSZ.out] at h1
          exact ⟨⟨rfl, _, _, h1⟩, HBF.out.trans (below_drewN w11 nq CB)⟩
        · rw [if_pos (by rfl)]
          go_simp
          refine hK.out _ _ (HKC.out _ HA1.out) (fun hHeld => ?_)
          clear hK K
          try simp only [Act.put, List.setIfInBounds_toArray, List.set_cons_zero, List.set_cons_succ]
          refine wpAnyH_ready (rs := [4]) (by kernel_rfl) (by simp) ?_
          refine AllReadyH.cons (by simp only [List.getElem?_toArray, List.getElem?_cons_succ, List.getElem?_cons_zero]; exact rfl) (fun K hK => ?_) AllReadyH.nil
          rw [if_pos (by rfl)]
          go_simp
          refine hK.out _ _ (HKC.out _ HA1.out) (fun hHeld => ?_)
          clear hK K
          try simp only [Act.put, List.setIfInBounds_toArray, List.set_cons_zero, List.set_cons_succ]
          refine wpAnyH_ready (rs := [7]) (by kernel_rfl) (by simp) ?_
          refine AllReadyH.cons (by simp only [List.getElem?_toArray, List.getElem?_cons_succ, List.getElem?_cons_zero]; exact rfl) (fun K hK => ?_) AllReadyH.nil
          rw [if_pos (by rfl)]
          refine wp_append_lies _ _ _ _ rfl (CB + 1) 148 i3 _ 4 80 Try.underlying144 hi3 hy0 hy1 hy2 rfl (by omega) (.slice ca E.length cc) E.length (flatC rC raw) rfl HOA.out ⟨w9.heap.size, 0, none⟩ 1 1 [.slice sa s.length sc, .slice ra l.length rc, .slice ua ks.length uc, .bool vd] rfl rfl (World.news_of_block (cs := #[.slice sa s.length sc, .slice ra l.length rc, .slice ua ks.length uc, .bool vd]) (t := 148) (fr := (0, 0)) (alloc_last w9 _)) (by simp [Value.oneCell']) (by omega) hm1 hm2 HBS.out (w9.heap.size + 1) (by simp) ?_
          intro gg cap6 w10 hown6 hgrow6 hat6 _
          have hXC := cell_of_blk ((hgrow6.block CB (Nat.lt_of_lt_of_le (blk_lt HC9.out.blk) (by simp)) (fun e => HNX.out e.symm)).trans ((Below.heap_alloc w9 (.cells #[.slice sa s.length sc, .slice ra l.length rc, .slice ua ks.length uc, .bool vd] 148) CB (blk_lt HC9.out.blk)).trans HC9.out.blk)) (show (#[.int .i64 lim, .slice ca E.length cc, .int .i64 hits] : Array Value)[1]? = some (.slice ca E.length cc) from rfl)
          have hXF := thaw ((hgrow6.block CB (Nat.lt_of_lt_of_le (blk_lt HC9.out.blk) (by simp)) (fun e => HNX.out e.symm)).trans ((Below.heap_alloc w9 (.cells #[.slice sa s.length sc, .slice ra l.length rc, .slice ua ks.length uc, .bool vd] 148) CB (blk_lt HC9.out.blk)).trans HC9.out.blk)) 1
          have HE10 := Lib.hid ((hgrow6.block EB (Nat.lt_of_lt_of_le (blk_lt HE9.out) (by simp)) (fun e => HNOB.out e.symm)).trans HA1.out)
          refine hK.out _ _ (HKC.out _ HE10.out) (fun hHeld => ?_)
          clear hK K
          try simp only [Act.put, List.setIfInBounds_toArray, List.set_cons_zero, List.set_cons_succ]
          refine wpAnyH_ready (rs := [8]) (by kernel_rfl) (by simp) ?_
          refine AllReadyH.cons (by simp only [List.getElem?_toArray, List.getElem?_cons_succ, List.getElem?_cons_zero]; exact rfl) (fun K hK => ?_) AllReadyH.nil
          rw [if_pos (by rfl)]
          go_simp
          refine hK.out _ _ (HKC.out _ HE10.out) (fun hHeld => ?_)
          clear hK K
          try simp only [Act.put, List.setIfInBounds_toArray, List.set_cons_zero, List.set_cons_succ]
          refine wpAnyH_ready (rs := [9]) (by kernel_rfl) (by simp) ?_
          refine AllReadyH.cons (by simp only [List.getElem?_toArray, List.getElem?_cons_succ, List.getElem?_cons_zero]; exact rfl) (fun K hK => ?_) AllReadyH.nil
          rw [if_pos (by rfl)]
          go_simp
          refine hK.out _ _ (HKC.out _ HE10.out) (fun hHeld => ?_)
          clear hK K
          try simp only [Act.put, List.setIfInBounds_toArray, List.set_cons_zero, List.set_cons_succ]
          refine wpAnyH_ready (rs := [10]) (by kernel_rfl) (by simp) ?_
          refine AllReadyH.cons (by simp only [List.getElem?_toArray, List.getElem?_cons_succ, List.getElem?_cons_zero]; exact rfl) (fun K hK => ?_) AllReadyH.nil
          rw [if_pos (by rfl)]
          go_simp
          refine hK.out _ _ (HKC.out _ ((Below.heap_setCell _ _ _ _ HNCB.out).trans HE10.out)) (fun hHeld => ?_)
          clear hK K
          try simp only [Act.put, List.setIfInBounds_toArray, List.set_cons_zero, List.set_cons_succ]
          refine wpAnyH_done (by kernel_rfl) ?_ _
          have HW1 := Lib.hid (show Below w9.heap.size w9 (w9.alloc (.cells #[.slice sa s.length sc, .slice ra l.length rc, .slice ua ks.length uc, .bool vd] 148)).drew from ((Below.refl w9.heap.size w9).alloc (Nat.le_refl _) (.cells #[.slice sa s.length sc, .slice ra l.length rc, .slice ua ks.length uc, .bool vd] 148)).trans (below_drewN _ 1 _))
          have HMW1 := Lib.hid (more_trans HM9.out (more_of HW1.out))
          have HMWW := Lib.hid (more_trans HMW.out HMW1.out)
          have HCB0 := Lib.hid (show CB < w.heap.size from blk_lt HC.out.blk)
          have HER := Lib.hid (show ERow (fun b => b ≠ CB ∧ (Value.slice ca E.length cc).ownBlock ≠ some b ∧ S0 b) (w9.alloc (.cells #[.slice sa s.length sc, .slice ra l.length rc, .slice ua ks.length uc, .bool vd] 148)).drew ((.slice sa s.length sc, .slice ra l.length rc, .slice ua ks.length uc), vd) ⟨s, srtM l, usL s ks, vd⟩ from
            ⟨(HS.out.below HMWW.out.below).mono (fun b hb => ⟨by have := HC.out.cb; omega, fun e => by have := HC9.out.lt _ e; omega, hb.2⟩) (fun _ _ _ _ h => h), by
              show Row _ _ 3 (srtM l).length _ _
              rw [srtM_len]
              exact ((Row.of_owns HRR.out).below HMW1.out.below).mono (fun b hb => by
                have h1 : w2.heap.size ≤ b := hb
                have h2 := HM2.out.size
                have h3 := HMM.out.1
                exact ⟨by have := HC.out.cb; omega, fun e => by have := HC9.out.lt _ e; omega, HMM.out.2 b (by omega)⟩) (fun _ _ _ _ h => h), by
              show Row _ _ 7 (usL s ks).length _ _
              rw [show (usL s ks).length = ks.length from List.length_map _]
              exact ((Row.of_owns HUO.out).below HMW1.out.below).mono (fun b hb => by
                have h1 : N ≤ b := hb
                have h2 := HM2.out.size
                have h3 := HMM.out.1
                have h4 := HMC.out.size
                rw [HN.out] at h1
                exact ⟨by have := HC.out.cb; omega, fun e => by have := HC9.out.lt _ e; omega, HMM.out.2 b (by omega)⟩) (fun _ _ _ _ h => h), rfl⟩)
          have HF := Lib.hid ((HC9.out.below HW1.out).push HER.out (e := ⟨s, srtM l, usL s ks, vd⟩) ⟨HA.out, by show s.length ≤ 1000; omega, by show (srtM l).length ≤ 1000; rw [srtM_len]; omega, by show (usL s ks).length ≤ 1000; rw [show (usL s ks).length = ks.length from List.length_map _]; omega⟩ (n := E.length + 1) rfl hown6 hgrow6 (by
            rcases hat6 with h | h
            · exact Or.inl h
            · right; rw [h]; show w9.heap.size + 1 = (w9.alloc _).heap.size; rw [World.size_alloc]))
          have HBF := Lib.hid (show Below CB w (w10.setCell ⟨CB, 1, none⟩ (.slice (some ⟨gg, 0, none⟩) (E.length + 1) cap6)) from ((HMWW.out.below.mono (Nat.le_of_lt HCB0.out)).grown hgrow6 (Nat.le_trans (Nat.le_succ _) HBS.out) (fun z hz => Nat.le_of_succ_le (HOM.out z hz).1)).setCell (Nat.le_refl _) _)
          have HSZ := Lib.hid (show (w10.setCell ⟨CB, 1, none⟩ (.slice (some ⟨gg, 0, none⟩) (E.length + 1) cap6)).heap.size = w10.heap.size by simp)
          clear hown6 hgrow6 hat6 hXC hXF x0 x0d x0a f0 hcb
          go_upto_region 15 with (fail)
          generalize w10.setCell ⟨CB, 1, none⟩ (.slice (some ⟨gg, 0, none⟩) (E.length + 1) cap6) = w11 at *
          have c0 : w11.cell? ⟨CB, 0, none⟩ = some (.int .i64 lim) := cell_of_blk HF.out.blk rfl
          have c1 : w11.cell? ⟨CB, 1, none⟩ = some (.slice (some ⟨gg, 0, none⟩) (E.length + 1) cap6) := cell_of_blk HF.out.blk rfl
          have hcb := cell_lt c0
          have hle := HLIM.out.1
          go_quiet (fail)
          go_wp2_with fail
          go_ret
          have h1 := HF.out.below (below_drewN w11 nq w11.heap.size)
          rw [← HSZ.out] at h1
          exact ⟨⟨rfl, _, _, h1⟩, HBF.out.trans (below_drewN w11 nq CB)⟩
end Go.Proofs.Ytemeppfikpafbaa
