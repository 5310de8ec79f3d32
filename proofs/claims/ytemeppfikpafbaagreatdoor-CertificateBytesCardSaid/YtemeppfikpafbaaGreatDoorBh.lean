/- Texts BytG, RefG, laid together. -/
import Derived.Test.YtemeppfikpafbaaGreatDoorBe
import Derived.Test.YtemeppfikpafbaaGreatDoorBg
/- (choice.Set).Bytes (97) on any set. -/
namespace Go.Proofs.YtemeppfikpafbaaGreatDoor
open Go.RowKit
def l6 (x : Cg) : List Nat := [x.k.a.toNat, x.k.b.toNat, x.k.n.toNat, x.t.toNat, x.d.toNat, x.l.length]
def encC (x : Cg) : List Int := x.k.kind :: ((l6 x).flatMap encU ++ x.l.flatMap fun v => encU (zz v))
def encS (l : List Cg) : List Int := encU l.length ++ l.flatMap encC
theorem flat_len_le {α : Type} {f : α → List Int} {m : Nat} : ∀ {l : List α}, (∀ x ∈ l, (f x).length ≤ m) → (l.flatMap f).length ≤ l.length * m
  | [], _ => by simp
  | x :: r, h => by
    rw [List.flatMap_cons, List.length_append, List.length_cons, Nat.add_mul]
    have h1 := h x (by simp)
    have h2 := flat_len_le (l := r) fun y hy => h y (List.mem_cons_of_mem _ hy)
    omega
theorem encU_le (v : Nat) (h : v < 18446744073709551616) : (encU v).length ≤ 10 := encU_len v h
theorem CgOk.small {x : Cg} (h : CgOk x) : ∀ v ∈ l6 x, v < 70000 := by
  have h1 := h.key
  have h2 := h1.a1; have h3 := h1.b1; have h4 := h1.n1; have h5 := h.t1; have h6 := h.d1; have h7 := h.args
  have hb : topB x.k.kind ≤ 7 := by unfold topB; split <;> (try split) <;> omega
  have ht : topT x.k.kind ≤ 200 := by unfold topT; split <;> omega
  have hd : topD x.k.kind ≤ 200 := by unfold topD; split <;> (try split) <;> (try split) <;> omega
  intro v hv
  simp only [l6, List.mem_cons, List.not_mem_nil, or_false] at hv
  rcases hv with rfl | rfl | rfl | rfl | rfl | rfl <;> omega
theorem encC_len {x : Cg} (h : CgOk x) (hi : ∀ v ∈ x.l, In64 v) : (encC x).length ≤ 101 := by
  unfold encC
  rw [List.length_cons, List.length_append]
  have h1 := flat_len_le (f := encU) (m := 10) (l := l6 x) fun v hv => encU_le v (by have := h.small v hv; omega)
  have h2 := flat_len_le (f := fun v => encU (zz v)) (m := 10) (l := x.l) fun v hv => encU_le _ (zz_lt (hi v hv).1 (hi v hv).2)
  have h3 := h.args
  have h4 : (l6 x).length = 6 := rfl
  rw [h4] at h1
  omega
theorem idx228_0 (a b c d e f : Value) (w : World) : (Instr.index 105 (.agg #[a, b, c, d, e, f]) (.int .i64 0)).run Tryz.prog w = .ok a w := by kernel_rfl
theorem idx228_1 (a b c d e f : Value) (w : World) : (Instr.index 105 (.agg #[a, b, c, d, e, f]) (.int .i64 1)).run Tryz.prog w = .ok b w := by kernel_rfl
theorem idx228_2 (a b c d e f : Value) (w : World) : (Instr.index 105 (.agg #[a, b, c, d, e, f]) (.int .i64 2)).run Tryz.prog w = .ok c w := by kernel_rfl
theorem idx228_3 (a b c d e f : Value) (w : World) : (Instr.index 105 (.agg #[a, b, c, d, e, f]) (.int .i64 3)).run Tryz.prog w = .ok d w := by kernel_rfl
theorem idx228_4 (a b c d e f : Value) (w : World) : (Instr.index 105 (.agg #[a, b, c, d, e, f]) (.int .i64 4)).run Tryz.prog w = .ok e w := by kernel_rfl
theorem idx228_5 (a b c d e f : Value) (w : World) : (Instr.index 105 (.agg #[a, b, c, d, e, f]) (.int .i64 5)).run Tryz.prog w = .ok f w := by kernel_rfl
set_option maxRecDepth 100000 in
set_option maxHeartbeats 4000000 in
theorem bytes97_any (l : List GV) (v : Value) (w : World) (hs : SetAt anyB w v l) (hi : ∀ p ∈ l, ∀ n ∈ p.2.l, In64 n) :
    Calls Tryz.prog 21 #[.agg #[v]] w fun e w' => (∃ v', e = .returned v' ∧ w'.ownsRow w.heap.size 5 1 v' (encS (l.map (·.2))).length (bV (encS (l.map (·.2))))) ∧ Below w.heap.size w w' := by
  obtain ⟨a, cap, rfl, _⟩ := hs.row.shape
  have HS := Lib.hid hs; clear hs
  have HI := Lib.hid hi; clear hi
  obtain ⟨i0, hi0, hz0, hz1, hz2⟩ := info_parts infoB
  have HLN := Lib.hid HS.out.len
  obtain ⟨ln, HLE⟩ : ∃ ln, Hid (l.length = ln) := ⟨_, Lib.hid rfl⟩
  rw [HLE.out] at HLN ⊢
  have HSB := Lib.hid (alloc_last w (.cells #[.slice a ln cap] 33))
  have HM1 := Lib.hid (more_alloc w (.cells #[.slice a ln cap] 33))
  obtain ⟨N, HN⟩ : ∃ N, Hid (N = w.heap.size) := ⟨_, Lib.hid rfl⟩
  rw [← HN.out] at HSB ⊢
  have hln := HLN.out
  have hw : IntKind.u64.wrap (ln : Int) = ln := by rw [IntKind.wrap_u64]; omega
  go_enter Tryz.func21, Tryz.ntmps21
  go_upto_region 1 with (fail)
  rw [← HN.out]
  generalize w.alloc (.cells #[.slice a ln cap] 33) = w1 at *
  have c0 : w1.cell? ⟨N, 0, none⟩ = some (.slice a ln cap) := cell_of_blk HSB.out rfl
  have hbc := cell_lt c0
  have HP0 := Lib.hid (put147_any [] (.slice none 0 0) ln w1 (by omega) (by simp) ⟨Row.nil _ _ _ _ _, fun n c e => by cases e; rfl⟩)
  go_wp2_with fail
  refine HP0.out.mono ?_
  rintro e w2 ⟨⟨v2, rfl, ho2⟩, hb2⟩
  rw [List.nil_append] at ho2
  have HM2 := Lib.hid (more_trans HM1.out (more_of hb2))
  have HSB2 := Lib.hid (((more_of hb2).block (blk_lt HSB.out)).trans HSB.out)
  have HO2 := Lib.hid (show w2.ownsRow (N + 1) 5 1 v2 (encU ln).length (bV (encU ln)) from owns_base ho2 (by have := blk_lt HSB.out; omega))
  have HB2 := Lib.hid (show Below N w w2 by rw [HN.out]; exact HM2.out.below)
  obtain ⟨va, vc, rfl, _⟩ := owns_shape ho2
  clear hb2 ho2 c0 hbc HP0
  have c0 : w2.cell? ⟨N, 0, none⟩ = some (.slice a ln cap) := cell_of_blk HSB2.out rfl
  have hbc := cell_lt c0
  go_wp2_with fail
  clear c0 hbc hw
  go_loopw [3, 18] (fun p i wr => ∃ (j : Nat) (O : List Int), j ≤ ln ∧ i = .int .i64 j ∧ Hid (wr.ownsRow (N + 1) 5 1 p O.length (bV O)) ∧ Hid (O = encU ln ++ ((l.take j).map (·.2)).flatMap encC) ∧ Hid (Below N w wr) ∧ Hid (N + 1 ≤ wr.heap.size) ∧ Hid (O.length ≤ 10 + j * 101)) (fun _ i _ => ln - (intOf i).toNat)
  case atStart => exact ⟨0, encU ln, Nat.zero_le _, rfl, HO2, Lib.hid (by simp), HB2, Lib.hid (blk_lt HSB2.out), Lib.hid (by have := encU_len ln (by omega); omega)⟩
  case round =>
    obtain ⟨j, O, hj, rfl, HO, HOE, HB, HNS, HOL⟩ := hrel
    obtain ⟨wo, rfl⟩ : ∃ wo : World, wo = wr := ⟨_, rfl⟩
    have HMW := Lib.hid (show More w wo from by have := HB.out; rw [HN.out] at this; exact more_of this)
    obtain ⟨oa, oc, rfl, _⟩ := owns_shape HO.out
    by_cases hlt : j < ln
    · have hjl : j < l.length := by rw [HLE.out]; exact hlt
      have hrw := HS.out.row
      obtain ⟨b, off, rfl, _, hc⟩ := hrw.atC gC_len hjl
      have g0 := HMW.out.cell (hc 0 (.int .u8 l[j].2.k.kind) rfl)
      have g1 := HMW.out.cell (hc 1 (.int .i64 l[j].2.k.a) rfl)
      have g2 := HMW.out.cell (hc 2 (.int .i64 l[j].2.k.b) rfl)
      have g3 := HMW.out.cell (hc 3 (.int .i64 l[j].2.k.n) rfl)
      have g4 := HMW.out.cell (hc 4 (.int .i64 l[j].2.t) rfl)
      have g5 := HMW.out.cell (hc 5 (.int .i64 l[j].2.d) rfl)
      have g6 := HMW.out.cell (hc 6 l[j].1 rfl)
      rw [Nat.add_zero] at g0
      clear hc hrw
      have HGA := Lib.hid (HS.out.arg _ (List.getElem_mem hjl))
      obtain ⟨xa, xc, hxv, _⟩ := HGA.out.row.shape
      rw [hxv] at g6
      have HXV := Lib.hid hxv
      clear hxv
      have HKO := Lib.hid (HS.out.ok _ (List.getElem_mem hjl))
      have HIX := Lib.hid (HI.out _ (List.getElem_mem hjl))
      have HT := Lib.hid (show (l.take (j + 1)).map (·.2) = (l.take j).map (·.2) ++ [l[j].2] by rw [List.take_succ_eq_append_getElem hjl, List.map_append]; rfl)
      have HLT := Lib.hid hlt
      generalize l[j] = x at *
      clear hjl
      obtain ⟨na, hna⟩ : ∃ na : Nat, x.2.k.a = na := ⟨x.2.k.a.toNat, by have := HKO.out.key.a0; omega⟩
      obtain ⟨nb, hnb⟩ : ∃ na : Nat, x.2.k.b = na := ⟨x.2.k.b.toNat, by have := HKO.out.key.b0; omega⟩
      obtain ⟨nn, hnn⟩ : ∃ na : Nat, x.2.k.n = na := ⟨x.2.k.n.toNat, by have := HKO.out.key.n0; omega⟩
      obtain ⟨nt, hnt⟩ : ∃ na : Nat, x.2.t = na := ⟨x.2.t.toNat, by have := HKO.out.t0; omega⟩
      obtain ⟨nd, hnd⟩ : ∃ na : Nat, x.2.d = na := ⟨x.2.d.toNat, by have h1 := HKO.out.d0; have h2 : 0 ≤ lowD x.2.k.kind := (by unfold lowD; split <;> omega); omega⟩
      obtain ⟨an, HAN⟩ : ∃ an, Hid (x.2.l.length = an) := ⟨_, Lib.hid rfl⟩
      have HL6 := Lib.hid (show l6 x.2 = [na, nb, nn, nt, nd, an] by unfold l6; rw [hna, hnb, hnn, hnt, hnd, HAN.out]; rfl)
      have HSM := Lib.hid (show na < 70000 ∧ nb < 70000 ∧ nn < 70000 ∧ nt < 70000 ∧ nd < 70000 ∧ an < 70000 from by
        have h1 := HKO.out.small
        rw [HL6.out] at h1
        exact ⟨h1 na (by simp), h1 nb (by simp), h1 nn (by simp), h1 nt (by simp), h1 nd (by simp), h1 an (by simp)⟩)
      rw [hna] at g1
      rw [hnb] at g2
      rw [hnn] at g3
      rw [hnt] at g4
      rw [hnd] at g5
      rw [HAN.out] at g6
      clear hna hnb hnn hnt hnd
      have HCL := Lib.hid (encC_len HKO.out HIX.out)
      obtain ⟨kd, HKD⟩ : ∃ kd, Hid (x.2.k.kind = kd) := ⟨_, Lib.hid rfl⟩
      rw [HKD.out] at g0
      have hbg := cell_lt g0
      have HXB := Lib.hid (alloc_last wo (.cells #[.int .u8 kd, .int .i64 na, .int .i64 nb, .int .i64 nn, .int .i64 nt, .int .i64 nd, .slice xa an xc] 58))
      have HMO := Lib.hid (more_alloc wo (.cells #[.int .u8 kd, .int .i64 na, .int .i64 nb, .int .i64 nn, .int .i64 nt, .int .i64 nd, .slice xa an xc] 58))
      go_upto_region 5 with (fail)
      clear g0 g1 g2 g3 g4 g5 g6 hbg
      generalize wo.alloc (.cells #[.int .u8 kd, .int .i64 na, .int .i64 nb, .int .i64 nn, .int .i64 nt, .int .i64 nd, .slice xa an xc] 58) = w5 at *
      obtain ⟨XB, HXE⟩ : ∃ XB, Hid (XB = wo.heap.size) := ⟨_, Lib.hid rfl⟩
      rw [← HXE.out] at HXB ⊢
      have HO5 := Lib.hid (owns_keep HO.out (fun z hz => HMO.out.block (HO.out.lt z hz).2))
      have HS5 := Lib.hid (Nat.le_trans HNS.out HMO.out.size)
      have x0 : w5.cell? ⟨XB, 0, none⟩ = some (.int .u8 kd) := cell_of_blk HXB.out rfl
      have hbx := cell_lt x0
      have HR1 := Lib.hid (show O.length + 1 ≤ maxLen ∧ (O.length + 1) * 1 ≤ 140737488355328 from by have h1 := HOL.out; have h2 := HLN.out; unfold maxLen; omega)
      go_upto_region 6 with (at_builtin; refine wpList_append_own _ rfl _ _ 26 rfl (N + 1) 5 i0 _ 1 1 Tryz.underlying26 hi0 hz0 hz1 hz2 rfl (by omega) (.slice oa O.length oc) O.length (bV O) rfl (owns_keep HO5.out (fun z hz => Below.heap_alloc w5 _ _ (HO5.out.lt z hz).2)) ⟨w5.heap.size, 0, none⟩ 1 1 [.int .u8 kd] rfl rfl (World.news_of_block (cs := #[.int .u8 kd]) (t := 5) (fr := (0, 0)) (alloc_last _ _)) (by simp [Value.oneCell']) HR1.out.1 HR1.out.2 (by rw [World.size_alloc]; exact Nat.le_succ_of_le HS5.out) ?_; intro v6 w6 hown6 hgrow6 _)
      have HXB6 := Lib.hid ((hgrow6.block XB (by rw [World.size_alloc]; exact Nat.lt_succ_of_lt (blk_lt HXB.out)) (fun e => by have h1 := (HO.out.lt XB e.symm).2; have h2 := HXE.out; omega)).trans ((Below.heap_alloc w5 _ _ (blk_lt HXB.out)).trans HXB.out))
      have HB6 := Lib.hid (show Below N w w6 from ((HB.out.trans (HMO.out.below.mono (by have := HNS.out; omega))).alloc (by have := HS5.out; omega) _).grown hgrow6 (by rw [World.size_alloc]; have := HS5.out; omega) (fun z hz => by have := (HO.out.lt z hz).1; omega))
      have HS6 := Lib.hid (show N + 1 ≤ w6.heap.size from Nat.le_trans (by rw [World.size_alloc]; exact Nat.le_succ_of_le HS5.out) hgrow6.size)
      have HO6 := Lib.hid (show w6.ownsRow (N + 1) 5 1 v6 (O ++ [kd]).length (bV (O ++ [kd])) by rw [bV_push, List.length_append]; exact hown6)
      have HMWA := Lib.hid (show More w w6 from by have := HB6.out; rw [HN.out] at this; exact more_of this)
      obtain ⟨oa6, oc6, rfl, _⟩ := owns_shape hown6
      clear hown6 hgrow6 x0 hbx
      have x1 : w6.cell? ⟨XB, 1, none⟩ = some (.int .i64 na) := cell_of_blk HXB6.out rfl
      have x2 : w6.cell? ⟨XB, 2, none⟩ = some (.int .i64 nb) := cell_of_blk HXB6.out rfl
      have x3 : w6.cell? ⟨XB, 3, none⟩ = some (.int .i64 nn) := cell_of_blk HXB6.out rfl
      have x4 : w6.cell? ⟨XB, 4, none⟩ = some (.int .i64 nt) := cell_of_blk HXB6.out rfl
      have x5 : w6.cell? ⟨XB, 5, none⟩ = some (.int .i64 nd) := cell_of_blk HXB6.out rfl
      have x6 : w6.cell? ⟨XB, 6, none⟩ = some (.slice xa an xc) := cell_of_blk HXB6.out rfl
      have hbx := cell_lt x1
      go_wp2_with fail
      clear x1 x2 x3 x4 x5 x6 hbx
      go_loopw [3, 45] (fun p i wx => ∃ (m : Nat) (Q : List Int), m ≤ 6 ∧ i = .int .i64 m ∧ Hid (wx.ownsRow (N + 1) 5 1 p Q.length (bV Q)) ∧ Hid (Q = O ++ [kd] ++ ((l6 x.2).take m).flatMap encU) ∧ Hid (More w6 wx) ∧ Hid (Q.length ≤ O.length + 1 + m * 10)) (fun _ i _ => 6 - (intOf i).toNat)
      case atStart => exact ⟨0, O ++ [kd], by omega, rfl, by simpa using HO6, Lib.hid (by simp), Lib.hid (World.grownBy.refl _ _), Lib.hid (by simp)⟩
      case round =>
        obtain ⟨m, Q, hm, rfl, HQ, HQE, HMX, HQL⟩ := hrel
        obtain ⟨wx, rfl⟩ : ∃ wx : World, wx = wr := ⟨_, rfl⟩
        obtain ⟨qa, qc, rfl, _⟩ := owns_shape HQ.out
        have hsm := HSM.out
        by_cases hm6 : m < 6
        · have HPU := Lib.hid (fun (u : Nat) (hu : u < 70000) => put147_any Q _ u wx (by omega) (by have h1 := HQL.out; have h2 := HOL.out; have h3 := HLN.out; omega) (ByG.of_owns HQ.out))
          have HSX := Lib.hid (Nat.le_trans HS6.out HMX.out.size)
          have hwu : ∀ u : Nat, u < 70000 → IntKind.u64.wrap (u : Int) = u := fun u hu => by rw [IntKind.wrap_u64]; omega
          have hw0 := hwu na hsm.1
          have hw1 := hwu nb hsm.2.1
          have hw2 := hwu nn hsm.2.2.1
          have hw3 := hwu nt hsm.2.2.2.1
          have hw4 := hwu nd hsm.2.2.2.2.1
          have hw5 := hwu an hsm.2.2.2.2.2
          clear hwu
          have hmc : m = 0 ∨ m = 1 ∨ m = 2 ∨ m = 3 ∨ m = 4 ∨ m = 5 := by omega
          rcases hmc with rfl | rfl | rfl | rfl | rfl | rfl
          · have hix := fun a b c d e f W => idx228_0 a b c d e f W
            go_wp2_with fail
            refine (HPU.out na hsm.1).mono ?_
            rintro e w8 ⟨⟨v8, rfl, ho8⟩, hb8⟩
            have HO8 := Lib.hid (owns_base ho8 HSX.out)
            have HM8 := Lib.hid (more_trans HMX.out (more_of hb8))
            obtain ⟨va8, vc8, rfl, _⟩ := owns_shape ho8
            clear ho8 hb8
            go_wp2_with fail
            go_roundw
            case rel => exact ⟨1, Q ++ encU na, by omega, by go_num, Lib.hid (by rw [← List.length_append]; exact HO8.out), Lib.hid (by rw [HQE.out, HL6.out]; simp [List.flatMap_cons, List.append_assoc]), HM8, Lib.hid (by rw [List.length_append]; have h1 := HQL.out; have h2 := encU_len na (by omega); omega)⟩
            case measure => simp [intOf]
          · have hix := fun a b c d e f W => idx228_1 a b c d e f W
            go_wp2_with fail
            refine (HPU.out nb hsm.2.1).mono ?_
            rintro e w8 ⟨⟨v8, rfl, ho8⟩, hb8⟩
            have HO8 := Lib.hid (owns_base ho8 HSX.out)
            have HM8 := Lib.hid (more_trans HMX.out (more_of hb8))
            obtain ⟨va8, vc8, rfl, _⟩ := owns_shape ho8
            clear ho8 hb8
            go_wp2_with fail
            go_roundw
            case rel => exact ⟨2, Q ++ encU nb, by omega, by go_num, Lib.hid (by rw [← List.length_append]; exact HO8.out), Lib.hid (by rw [HQE.out, HL6.out]; simp [List.flatMap_cons, List.append_assoc]), HM8, Lib.hid (by rw [List.length_append]; have h1 := HQL.out; have h2 := encU_len nb (by omega); omega)⟩
            case measure => simp [intOf]
          · have hix := fun a b c d e f W => idx228_2 a b c d e f W
            go_wp2_with fail
            refine (HPU.out nn hsm.2.2.1).mono ?_
            rintro e w8 ⟨⟨v8, rfl, ho8⟩, hb8⟩
            have HO8 := Lib.hid (owns_base ho8 HSX.out)
            have HM8 := Lib.hid (more_trans HMX.out (more_of hb8))
            obtain ⟨va8, vc8, rfl, _⟩ := owns_shape ho8
            clear ho8 hb8
            go_wp2_with fail
            go_roundw
            case rel => exact ⟨3, Q ++ encU nn, by omega, by go_num, Lib.hid (by rw [← List.length_append]; exact HO8.out), Lib.hid (by rw [HQE.out, HL6.out]; simp [List.flatMap_cons, List.append_assoc]), HM8, Lib.hid (by rw [List.length_append]; have h1 := HQL.out; have h2 := encU_len nn (by omega); omega)⟩
            case measure => simp [intOf]
          · have hix := fun a b c d e f W => idx228_3 a b c d e f W
            go_wp2_with fail
            refine (HPU.out nt hsm.2.2.2.1).mono ?_
            rintro e w8 ⟨⟨v8, rfl, ho8⟩, hb8⟩
            have HO8 := Lib.hid (owns_base ho8 HSX.out)
            have HM8 := Lib.hid (more_trans HMX.out (more_of hb8))
            obtain ⟨va8, vc8, rfl, _⟩ := owns_shape ho8
            clear ho8 hb8
            go_wp2_with fail
            go_roundw
            case rel => exact ⟨4, Q ++ encU nt, by omega, by go_num, Lib.hid (by rw [← List.length_append]; exact HO8.out), Lib.hid (by rw [HQE.out, HL6.out]; simp [List.flatMap_cons, List.append_assoc]), HM8, Lib.hid (by rw [List.length_append]; have h1 := HQL.out; have h2 := encU_len nt (by omega); omega)⟩
            case measure => simp [intOf]
          · have hix := fun a b c d e f W => idx228_4 a b c d e f W
            go_wp2_with fail
            refine (HPU.out nd hsm.2.2.2.2.1).mono ?_
            rintro e w8 ⟨⟨v8, rfl, ho8⟩, hb8⟩
            have HO8 := Lib.hid (owns_base ho8 HSX.out)
            have HM8 := Lib.hid (more_trans HMX.out (more_of hb8))
            obtain ⟨va8, vc8, rfl, _⟩ := owns_shape ho8
            clear ho8 hb8
            go_wp2_with fail
            go_roundw
            case rel => exact ⟨5, Q ++ encU nd, by omega, by go_num, Lib.hid (by rw [← List.length_append]; exact HO8.out), Lib.hid (by rw [HQE.out, HL6.out]; simp [List.flatMap_cons, List.append_assoc]), HM8, Lib.hid (by rw [List.length_append]; have h1 := HQL.out; have h2 := encU_len nd (by omega); omega)⟩
            case measure => simp [intOf]
          · have hix := fun a b c d e f W => idx228_5 a b c d e f W
            go_wp2_with fail
            refine (HPU.out an hsm.2.2.2.2.2).mono ?_
            rintro e w8 ⟨⟨v8, rfl, ho8⟩, hb8⟩
            have HO8 := Lib.hid (owns_base ho8 HSX.out)
            have HM8 := Lib.hid (more_trans HMX.out (more_of hb8))
            obtain ⟨va8, vc8, rfl, _⟩ := owns_shape ho8
            clear ho8 hb8
            go_wp2_with fail
            go_roundw
            case rel => exact ⟨6, Q ++ encU an, by omega, by go_num, Lib.hid (by rw [← List.length_append]; exact HO8.out), Lib.hid (by rw [HQE.out, HL6.out]; simp [List.flatMap_cons, List.append_assoc]), HM8, Lib.hid (by rw [List.length_append]; have h1 := HQL.out; have h2 := encU_len an (by omega); omega)⟩
            case measure => simp [intOf]
        · have HM6E := Lib.hid (show m = 6 by omega)
          have hmd : decide ((m : Int) < 6) = false := decide_eq_false (by omega)
          have hQE := HQE.out
          rw [HM6E.out] at hQE
          have HQE := Lib.hid hQE; clear hQE
          clear hm6 hm
          have HXB8 := Lib.hid ((HMX.out.block (blk_lt HXB6.out)).trans HXB6.out)
          have x6 : wx.cell? ⟨XB, 6, none⟩ = some (.slice xa an xc) := cell_of_blk HXB8.out rfl
          have hbx := cell_lt x6
          have hal : an ≤ 4 := by have h1 := HKO.out.args; have h2 := HAN.out; omega
          have HAL := Lib.hid hal
          go_wp2_with fail
          clear x6 hbx
          go_loopw [3, 56] (fun p i wz => ∃ (y : Nat) (Z : List Int), y ≤ an ∧ i = .int .i64 y ∧ Hid (wz.ownsRow (N + 1) 5 1 p Z.length (bV Z)) ∧ Hid (Z = Q ++ (x.2.l.take y).flatMap fun v => encU (zz v)) ∧ Hid (More wx wz) ∧ Hid (Z.length ≤ Q.length + y * 10)) (fun _ i _ => an - (intOf i).toNat)
          case atStart => exact ⟨0, Q, by omega, rfl, HQ, Lib.hid (by simp), Lib.hid (World.grownBy.refl _ _), Lib.hid (by simp)⟩
          case round =>
            obtain ⟨y, Z, hy, rfl, HZ, HZE, HMY, HZL⟩ := hrel
            obtain ⟨wz, rfl⟩ : ∃ wz : World, wz = wr := ⟨_, rfl⟩
            obtain ⟨za, zc, rfl, _⟩ := owns_shape HZ.out
            have hal := HAL.out
            have HMZ := Lib.hid (more_trans HMWA.out (more_trans HMX.out HMY.out))
            by_cases hyt : y < an
            · have hyl : y < x.2.l.length := by rw [HAN.out]; exact hyt
              have hrw := HGA.out.row
              rw [HXV.out] at hrw
              obtain ⟨b2, off2, rfl, _, hc⟩ := hrw.atC nC_len hyl
              have HWZ := HMZ
              have e0 := HWZ.out.cell (hc 0 (.int .i64 x.2.l[y]) rfl)
              rw [Nat.add_zero, Nat.mul_one] at e0
              clear hc hrw
              have HT2 := Lib.hid (show x.2.l.take (y + 1) = x.2.l.take y ++ [x.2.l[y]] from List.take_succ_eq_append_getElem hyl)
              have HIN := Lib.hid (HIX.out _ (List.getElem_mem hyl))
              have HYT := Lib.hid hyt
              generalize x.2.l[y] = n at *
              clear hyl
              have hbe := cell_lt e0
              have HPU := Lib.hid (putInt103_any Z _ n wz HIN.out.1 HIN.out.2 (by have h1 := HZL.out; have h2 := HQL.out; have h3 := HOL.out; have h4 := HLN.out; have h5 := HM6E.out; omega) (ByG.of_owns HZ.out))
              have HSZ := Lib.hid (Nat.le_trans HS6.out (more_trans HMX.out HMY.out).size)
              go_wp2_with fail
              refine HPU.out.mono ?_
              rintro e w8 ⟨⟨v8, rfl, ho8⟩, hb8⟩
              have HO8 := Lib.hid (owns_base ho8 HSZ.out)
              have HM8 := Lib.hid (more_trans HMY.out (more_of hb8))
              obtain ⟨va8, vc8, rfl, _⟩ := owns_shape ho8
              clear ho8 hb8 e0 hbe
              have hyt9 := HYT.out
              go_wp2_with fail
              go_roundw
              case rel => exact ⟨y + 1, Z ++ encU (zz n), by omega, by go_num, Lib.hid (by rw [← List.length_append]; exact HO8.out), Lib.hid (by rw [HZE.out, HT2.out]; simp [List.flatMap_append, List.append_assoc]), HM8, Lib.hid (by rw [List.length_append]; have h1 := HZL.out; have h2 := encU_len _ (zz_lt HIN.out.1 HIN.out.2); omega)⟩
              case measure => have := HYT.out; simp [intOf]; omega
            · obtain rfl : y = an := by omega
              rw [List.take_of_length_le (by rw [HAN.out]; exact Nat.le_refl _)] at HZE
              have HZF := Lib.hid (show Z = O ++ encC x.2 by rw [HZE.out, HQE.out, HL6.out]; unfold encC; rw [HKD.out, HL6.out]; simp [List.append_assoc])
              have hlt9 := HLT.out
              have hln9 := HLN.out
              go_wp2_with fail
              go_roundw
              case rel => exact ⟨j + 1, Z, by omega, by go_num, HZ, Lib.hid (by rw [HZF.out, HOE.out, HT.out, List.flatMap_append, List.flatMap_singleton, List.append_assoc]), Lib.hid (show Below N w wz by rw [HN.out]; exact HMZ.out.below), Lib.hid (Nat.le_trans HS6.out (more_trans HMX.out HMY.out).size), Lib.hid (by rw [HZF.out, List.length_append]; have h1 := HCL.out; have h2 := HOL.out; omega)⟩
              case measure => have := HLT.out; simp [intOf]; omega
    · obtain rfl : j = ln := by omega
      rw [List.take_of_length_le (by rw [HLE.out]; exact Nat.le_refl _)] at HOE
      have HEE := Lib.hid (show O = encS (l.map (·.2)) by unfold encS; rw [List.length_map, HLE.out]; exact HOE.out)
      go_wp2_with fail
      go_ret
      rw [← HEE.out]
      exact ⟨⟨_, rfl, owns_base HO.out (Nat.le_succ _)⟩, HB.out⟩
end Go.Proofs.YtemeppfikpafbaaGreatDoor

/- rootcauseref50.less (96), hold (95). -/
namespace Go.Proofs.YtemeppfikpafbaaGreatDoor
open Go.RowKit
set_option maxRecDepth 100000 in
set_option maxHeartbeats 2000000 in
theorem less96_ref (x y : M3) (w : World) : Calls Tryz.prog 58 #[.agg #[.int .i64 x.f, .int .i64 x.t, .int .i64 x.n], .agg #[.int .i64 y.f, .int .i64 y.t, .int .i64 y.n]] w fun e w' => e = .returned (.bool (ltMb x y)) ∧ Lay w w' := by
  obtain ⟨xf, xt, xn⟩ := x
  obtain ⟨yf, yt, yn⟩ := y
  dsimp only
  by_cases hf : xf = yf
  · subst hf
    by_cases ht : xt = yt
    · subst ht
      have e : ltMb ⟨xf, xt, xn⟩ ⟨xf, xt, yn⟩ = decide (xn < yn) := by unfold ltMb; rw [Bool.eq_iff_iff, decide_eq_true_iff, decide_eq_true_iff]; unfold ltM; dsimp only; omega
      rw [e]
      clear e
      go_enter Tryz.func58, Tryz.ntmps58
      go_wp2_with fail
      obtain ⟨ha, hb, hm⟩ := boxed2 w (.cells #[.int .i64 xf, .int .i64 xt, .int .i64 xn] 65) (.cells #[.int .i64 xf, .int .i64 xt, .int .i64 yn] 65)
      generalize (w.alloc (.cells #[.int .i64 xf, .int .i64 xt, .int .i64 xn] 65)).alloc (.cells #[.int .i64 xf, .int .i64 xt, .int .i64 yn] 65) = w2 at *
      have a0 : w2.cell? ⟨w.heap.size, 0, none⟩ = some (.int .i64 xf) := cell_of_blk ha rfl
      have a1 : w2.cell? ⟨w.heap.size, 1, none⟩ = some (.int .i64 xt) := cell_of_blk ha rfl
      have a2 : w2.cell? ⟨w.heap.size, 2, none⟩ = some (.int .i64 xn) := cell_of_blk ha rfl
      have b0 : w2.cell? ⟨w.heap.size + 1, 0, none⟩ = some (.int .i64 xf) := cell_of_blk hb rfl
      have b1 : w2.cell? ⟨w.heap.size + 1, 1, none⟩ = some (.int .i64 xt) := cell_of_blk hb rfl
      have b2 : w2.cell? ⟨w.heap.size + 1, 2, none⟩ = some (.int .i64 yn) := cell_of_blk hb rfl
      have HM := Lib.hid hm
      clear ha hb hm
      go_wp2_with fail
      go_ret
      exact ⟨rfl, HM.out⟩
    · skip
      have e : ltMb ⟨xf, xt, xn⟩ ⟨xf, yt, yn⟩ = decide (xt < yt) := by unfold ltMb; rw [Bool.eq_iff_iff, decide_eq_true_iff, decide_eq_true_iff]; unfold ltM; dsimp only; omega
      rw [e]
      clear e
      go_enter Tryz.func58, Tryz.ntmps58
      go_wp2_with fail
      obtain ⟨ha, hb, hm⟩ := boxed2 w (.cells #[.int .i64 xf, .int .i64 xt, .int .i64 xn] 65) (.cells #[.int .i64 xf, .int .i64 yt, .int .i64 yn] 65)
      generalize (w.alloc (.cells #[.int .i64 xf, .int .i64 xt, .int .i64 xn] 65)).alloc (.cells #[.int .i64 xf, .int .i64 yt, .int .i64 yn] 65) = w2 at *
      have a0 : w2.cell? ⟨w.heap.size, 0, none⟩ = some (.int .i64 xf) := cell_of_blk ha rfl
      have a1 : w2.cell? ⟨w.heap.size, 1, none⟩ = some (.int .i64 xt) := cell_of_blk ha rfl
      have a2 : w2.cell? ⟨w.heap.size, 2, none⟩ = some (.int .i64 xn) := cell_of_blk ha rfl
      have b0 : w2.cell? ⟨w.heap.size + 1, 0, none⟩ = some (.int .i64 xf) := cell_of_blk hb rfl
      have b1 : w2.cell? ⟨w.heap.size + 1, 1, none⟩ = some (.int .i64 yt) := cell_of_blk hb rfl
      have b2 : w2.cell? ⟨w.heap.size + 1, 2, none⟩ = some (.int .i64 yn) := cell_of_blk hb rfl
      have HM := Lib.hid hm
      clear ha hb hm
      go_wp2_with fail
      go_ret
      exact ⟨rfl, HM.out⟩
  · skip
    have e : ltMb ⟨xf, xt, xn⟩ ⟨yf, yt, yn⟩ = decide (xf < yf) := by unfold ltMb; rw [Bool.eq_iff_iff, decide_eq_true_iff, decide_eq_true_iff]; unfold ltM; dsimp only; omega
    rw [e]
    clear e
    go_enter Tryz.func58, Tryz.ntmps58
    go_wp2_with fail
    obtain ⟨ha, hb, hm⟩ := boxed2 w (.cells #[.int .i64 xf, .int .i64 xt, .int .i64 xn] 65) (.cells #[.int .i64 yf, .int .i64 yt, .int .i64 yn] 65)
    generalize (w.alloc (.cells #[.int .i64 xf, .int .i64 xt, .int .i64 xn] 65)).alloc (.cells #[.int .i64 yf, .int .i64 yt, .int .i64 yn] 65) = w2 at *
    have a0 : w2.cell? ⟨w.heap.size, 0, none⟩ = some (.int .i64 xf) := cell_of_blk ha rfl
    have a1 : w2.cell? ⟨w.heap.size, 1, none⟩ = some (.int .i64 xt) := cell_of_blk ha rfl
    have a2 : w2.cell? ⟨w.heap.size, 2, none⟩ = some (.int .i64 xn) := cell_of_blk ha rfl
    have b0 : w2.cell? ⟨w.heap.size + 1, 0, none⟩ = some (.int .i64 yf) := cell_of_blk hb rfl
    have b1 : w2.cell? ⟨w.heap.size + 1, 1, none⟩ = some (.int .i64 yt) := cell_of_blk hb rfl
    have b2 : w2.cell? ⟨w.heap.size + 1, 2, none⟩ = some (.int .i64 yn) := cell_of_blk hb rfl
    have HM := Lib.hid hm
    clear ha hb hm
    go_wp2_with fail
    go_ret
    exact ⟨rfl, HM.out⟩
/-- A hold up to a horizon. -/
def HoldRef (hor : Int) (h : Ho) : Prop := hoOkb h = true ∧ ∀ a ∈ h.al, a.2.tk ≤ hor
theorem ho_parts {m : M3} {al : List AV} (h : hoOkb ⟨m, al⟩ = true) : 0 ≤ m.f ∧ m.f < 8 ∧ 0 ≤ m.t ∧ m.t < 8 ∧ 0 ≤ m.n ∧ m.n ≤ 65535 ∧ al.length ≤ 2 ∧ arOkb 1 al = true := by
  unfold hoOkb msgOkb at h
  simp only [Bool.and_eq_true, decide_eq_true_eq] at h
  obtain ⟨⟨h1, h2, h3⟩, h4, h5⟩ := h
  exact ⟨h1.1, h1.2, h2.1, h2.2, h3.1, h3.2, h4, h5⟩
set_option maxRecDepth 100000 in
set_option maxHeartbeats 4000000 in
theorem hold95_any (p : HV) (hor : Int) (E : Bool) (hE : E = true ↔ HoldRef hor p.2) (w : World) (hp : HAt anyB w p) : Calls Tryz.prog 57 #[hA p, .int .i64 hor] w fun e w' => e = .returned (.bool E) ∧ Below w.heap.size w w' := by
  obtain ⟨v, ⟨⟨mf, mt, mn⟩, al⟩⟩ := p
  have HE := Lib.hid hE; clear hE
  have HFA := Lib.hid (show ¬ HoldRef hor (v, (⟨⟨mf, mt, mn⟩, al⟩ : Ho)).2 → E = false from fun h => by
    cases E with
    | false => rfl
    | true => exact absurd (HE.out.1 rfl) h)
  have hrow := hp.row
  have hlen := hp.len
  have HAR := Lib.hid (fun q (hq : q ∈ al) => And.intro (hp.arg q hq).1 (hp.lens q hq))
  clear hp
  unfold hA
  dsimp only at *
  obtain ⟨sa, sc, rfl, _⟩ := hrow.shape
  have HR := Lib.hid hrow; clear hrow
  unfold maxLen at hlen
  obtain ⟨ln, HLN⟩ : ∃ ln, Hid (al.length = ln) := ⟨_, Lib.hid rfl⟩
  have HP := Lib.hid (fun (h : HoldRef hor ⟨⟨mf, mt, mn⟩, al⟩) => ho_parts h.1)
  rw [HLN.out] at HR hlen HP ⊢
  have HB1 := Lib.hid (alloc_last w (.cells #[.int .i64 mf, .int .i64 mt, .int .i64 mn, .slice sa ln sc] 68))
  have HM1 := Lib.hid (more_alloc w (.cells #[.int .i64 mf, .int .i64 mt, .int .i64 mn, .slice sa ln sc] 68))
  obtain ⟨N, HN⟩ : ∃ N, Hid (N = w.heap.size) := ⟨_, Lib.hid rfl⟩
  rw [← HN.out] at HB1 ⊢
  go_enter Tryz.func57, Tryz.ntmps57
  go_upto_region 1 with (fail)
  rw [← HN.out]
  generalize w.alloc (.cells #[.int .i64 mf, .int .i64 mt, .int .i64 mn, .slice sa ln sc] 68) = w1 at *
  have c0 : w1.cell? ⟨N, 0, none⟩ = some (.int .i64 mf) := cell_of_blk HB1.out rfl
  have c1 : w1.cell? ⟨N, 1, none⟩ = some (.int .i64 mt) := cell_of_blk HB1.out rfl
  have c2 : w1.cell? ⟨N, 2, none⟩ = some (.int .i64 mn) := cell_of_blk HB1.out rfl
  have hbc := cell_lt c0
  have HB2 := Lib.hid (alloc_last w1 (.cells #[.int .i64 mf, .int .i64 mt, .int .i64 mn] 65))
  have HM2 := Lib.hid (more_alloc w1 (.cells #[.int .i64 mf, .int .i64 mt, .int .i64 mn] 65))
  go_upto_region 2 with (fail)
  have HB1b := Lib.hid ((HM2.out.block (blk_lt HB1.out)).trans HB1.out)
  generalize w1.alloc (.cells #[.int .i64 mf, .int .i64 mt, .int .i64 mn] 65) = w2 at *
  generalize w1.heap.size = MB at *
  clear c0 c1 c2 hbc
  have m0 : w2.cell? ⟨MB, 0, none⟩ = some (.int .i64 mf) := cell_of_blk HB2.out rfl
  have m1 : w2.cell? ⟨MB, 1, none⟩ = some (.int .i64 mt) := cell_of_blk HB2.out rfl
  have m2 : w2.cell? ⟨MB, 2, none⟩ = some (.int .i64 mn) := cell_of_blk HB2.out rfl
  have c3 : w2.cell? ⟨N, 3, none⟩ = some (.slice sa ln sc) := cell_of_blk HB1b.out rfl
  have hbm := cell_lt m0
  have hbc := cell_lt c3
  have HBE := Lib.hid (show Below N w w2 from by rw [HN.out]; exact (more_trans HM1.out HM2.out).below)
  by_cases r0 : mf < 0
  · have HNO := Lib.hid (show ¬ HoldRef hor ⟨⟨mf, mt, mn⟩, al⟩ from fun h => by have h1 := HP.out h; dsimp only at h1; omega)
    have r0' : mf < 0 := by omega
    go_wp2_with fail
    go_ret
    exact ⟨by rw [HFA.out HNO.out]; rfl, HBE.out⟩
  · have d0 : decide (mf < 0) = false := decide_eq_false (by omega)
    by_cases r1 : 8 ≤ mf
    · have HNO := Lib.hid (show ¬ HoldRef hor ⟨⟨mf, mt, mn⟩, al⟩ from fun h => by have h1 := HP.out h; dsimp only at h1; omega)
      have r1' : 8 ≤ mf := by omega
      go_wp2_with fail
      go_ret
      exact ⟨by rw [HFA.out HNO.out]; rfl, HBE.out⟩
    · have d1 : decide (8 ≤ mf) = false := decide_eq_false (by omega)
      by_cases r2 : mt < 0
      · have HNO := Lib.hid (show ¬ HoldRef hor ⟨⟨mf, mt, mn⟩, al⟩ from fun h => by have h1 := HP.out h; dsimp only at h1; omega)
        have r2' : mt < 0 := by omega
        go_wp2_with fail
        go_ret
        exact ⟨by rw [HFA.out HNO.out]; rfl, HBE.out⟩
      · have d2 : decide (mt < 0) = false := decide_eq_false (by omega)
        by_cases r3 : 8 ≤ mt
        · have HNO := Lib.hid (show ¬ HoldRef hor ⟨⟨mf, mt, mn⟩, al⟩ from fun h => by have h1 := HP.out h; dsimp only at h1; omega)
          have r3' : 8 ≤ mt := by omega
          go_wp2_with fail
          go_ret
          exact ⟨by rw [HFA.out HNO.out]; rfl, HBE.out⟩
        · have d3 : decide (8 ≤ mt) = false := decide_eq_false (by omega)
          by_cases r4 : mn < 0
          · have HNO := Lib.hid (show ¬ HoldRef hor ⟨⟨mf, mt, mn⟩, al⟩ from fun h => by have h1 := HP.out h; dsimp only at h1; omega)
            have r4' : mn < 0 := by omega
            go_wp2_with fail
            go_ret
            exact ⟨by rw [HFA.out HNO.out]; rfl, HBE.out⟩
          · have d4 : decide (mn < 0) = false := decide_eq_false (by omega)
            by_cases r5 : 65535 < mn
            · have HNO := Lib.hid (show ¬ HoldRef hor ⟨⟨mf, mt, mn⟩, al⟩ from fun h => by have h1 := HP.out h; dsimp only at h1; omega)
              have r5' : 65535 < mn := by omega
              go_wp2_with fail
              go_ret
              exact ⟨by rw [HFA.out HNO.out]; rfl, HBE.out⟩
            · have d5 : decide (65535 < mn) = false := decide_eq_false (by omega)
              by_cases r6 : 2 < ln
              · have HNO := Lib.hid (show ¬ HoldRef hor ⟨⟨mf, mt, mn⟩, al⟩ from fun h => by have h1 := HP.out h; dsimp only at h1; omega)
                have r6' : (2 : Int) < ln := by omega
                go_wp2_with fail
                go_ret
                exact ⟨by rw [HFA.out HNO.out]; rfl, HBE.out⟩
              · have d6 : decide ((2 : Int) < ln) = false := decide_eq_false (by omega)
                have HL2 := Lib.hid (show ln ≤ 2 by omega)
                have HE1 := Lib.hid (show (arOkb 1 al = true ∧ ∀ a ∈ al, a.2.tk ≤ hor) ↔ E = true from by
                  rw [HE.out]
                  unfold HoldRef
                  dsimp only
                  refine ⟨fun h => ⟨?_, h.2⟩, fun h => ⟨(ho_parts h.1).2.2.2.2.2.2.2, h.2⟩⟩
                  unfold hoOkb msgOkb
                  dsimp only
                  rw [h.1, decide_eq_true (show 0 ≤ mf ∧ mf < 8 by omega), decide_eq_true (show 0 ≤ mt ∧ mt < 8 by omega), decide_eq_true (show 0 ≤ mn ∧ mn ≤ 65535 by omega), decide_eq_true (show al.length ≤ 2 by rw [HLN.out]; exact HL2.out)]
                  rfl)
                clear r0 r1 r2 r3 r4 r5 r6 hlen
                go_wp2_with fail
                clear m0 m1 m2 c3 hbm hbc d0 d1 d2 d3 d4 d5 d6
                go_loopw [6, 48] (fun u i wr => ∃ (j : Nat) (last : Int), j ≤ ln ∧ i = .int .i64 j ∧ u = .int .i64 last ∧ Hid (More w2 wr) ∧ Hid ((arOkb last (al.drop j) = true ∧ ∀ a ∈ al.drop j, a.2.tk ≤ hor) ↔ E = true)) (fun _ i _ => ln - (intOf i).toNat)
                case atStart => exact ⟨0, 1, Nat.zero_le _, rfl, rfl, Lib.hid (World.grownBy.refl _ _), HE1⟩
                case round =>
                  obtain ⟨j, last, hj, rfl, rfl, HM, HEQ⟩ := hrel
                  have HMW := Lib.hid (show More w wr from more_trans (more_trans HM1.out HM2.out) HM.out)
                  have HBW := Lib.hid (show Below N w wr from by rw [HN.out]; exact HMW.out.below)
                  have hln2 := HL2.out
                  by_cases hlt : j < ln
                  · have hjl : j < al.length := by rw [HLN.out]; exact hlt
                    have hrw := HR.out
                    rw [← HLN.out] at hrw
                    obtain ⟨b, off, rfl, _, hc⟩ := hrw.atC aC_len hjl
                    have g0 := HMW.out.cell (hc 0 (.int .i64 al[j].2.tk) rfl)
                    have g1 := HMW.out.cell (hc 1 (.int .i64 al[j].2.hd) rfl)
                    have g2 := HMW.out.cell (hc 2 al[j].1 rfl)
                    rw [Nat.add_zero] at g0
                    clear hc hrw
                    obtain ⟨xa, xc, hxv, _⟩ := (HAR.out _ (List.getElem_mem hjl)).1.shape
                    have hxl := (HAR.out _ (List.getElem_mem hjl)).2
                    rw [hxv] at g2
                    rw [List.drop_eq_getElem_cons hjl] at HEQ
                    have HLT := Lib.hid hlt
                    generalize al[j] = x at *
                    clear hxv hjl
                    unfold maxLen at hxl
                    have hbg := cell_lt g0
                    have HMO := Lib.hid (more_alloc wr (.cells #[.int .i64 x.2.tk, .int .i64 x.2.hd, .slice xa x.2.l.length xc] 72))
                    have HXB := Lib.hid (alloc_last wr (.cells #[.int .i64 x.2.tk, .int .i64 x.2.hd, .slice xa x.2.l.length xc] 72))
                    go_upto_region 8 with (fail)
                    clear g0 g1 g2 hbg
                    have HB9 := Lib.hid (show Below N w _ from HBW.out.trans (HMO.out.below.mono (by rw [HN.out]; exact HMW.out.size)))
                    generalize wr.alloc (.cells #[.int .i64 x.2.tk, .int .i64 x.2.hd, .slice xa x.2.l.length xc] 72) = w5 at *
                    generalize wr.heap.size = XB at *
                    have x0 : w5.cell? ⟨XB, 0, none⟩ = some (.int .i64 x.2.tk) := cell_of_blk HXB.out rfl
                    have x1 : w5.cell? ⟨XB, 1, none⟩ = some (.int .i64 x.2.hd) := cell_of_blk HXB.out rfl
                    have x2 : w5.cell? ⟨XB, 2, none⟩ = some (.slice xa x.2.l.length xc) := cell_of_blk HXB.out rfl
                    have hbx := cell_lt x0
                    have HBAD := Lib.hid (show (x.2.tk < last ∨ hor < x.2.tk ∨ x.2.hd < 0 ∨ 8 ≤ x.2.hd ∨ 4 < x.2.l.length) → ¬ HoldRef hor ⟨⟨mf, mt, mn⟩, al⟩ from fun hb hk => by
                      obtain ⟨h1, h2⟩ := HEQ.out.2 (HE.out.2 hk)
                      have h3 := h2 x (by simp)
                      unfold arOkb at h1
                      split at h1
                      · cases h1
                      · omega)
                    have HGO := Lib.hid (show ¬ (x.2.tk < last ∨ hor < x.2.tk ∨ x.2.hd < 0 ∨ 8 ≤ x.2.hd ∨ 4 < x.2.l.length) → ((arOkb x.2.tk (al.drop (j + 1)) = true ∧ ∀ a ∈ al.drop (j + 1), a.2.tk ≤ hor) ↔ E = true) from fun hg => by
                      rw [← HEQ.out]
                      have e : arOkb last (x :: al.drop (j + 1)) = arOkb x.2.tk (al.drop (j + 1)) := by rw [arOkb, if_neg (by omega)]
                      rw [e]
                      exact ⟨fun h => ⟨h.1, fun a ha => by
                        rcases List.mem_cons.1 ha with rfl | ha
                        · omega
                        · exact h.2 a ha⟩, fun h => ⟨h.1, fun a ha => h.2 a (List.mem_cons_of_mem _ ha)⟩⟩)
                    by_cases s0 : x.2.tk < last
                    · have HNO := Lib.hid (HBAD.out (Or.inl s0))
                      have s0' : x.2.tk < last := by omega
                      go_wp2_with fail
                      go_ret
                      exact ⟨by rw [HFA.out HNO.out]; rfl, HB9.out⟩
                    · have e0 : decide (x.2.tk < last) = false := decide_eq_false (by omega)
                      by_cases s1 : hor < x.2.tk
                      · have HNO := Lib.hid (HBAD.out (Or.inr (Or.inl s1)))
                        have s1' : hor < x.2.tk := by omega
                        go_wp2_with fail
                        go_ret
                        exact ⟨by rw [HFA.out HNO.out]; rfl, HB9.out⟩
                      · have e1 : decide (hor < x.2.tk) = false := decide_eq_false (by omega)
                        by_cases s2 : x.2.hd < 0
                        · have HNO := Lib.hid (HBAD.out (Or.inr (Or.inr (Or.inl s2))))
                          have s2' : x.2.hd < 0 := by omega
                          go_wp2_with fail
                          go_ret
                          exact ⟨by rw [HFA.out HNO.out]; rfl, HB9.out⟩
                        · have e2 : decide (x.2.hd < 0) = false := decide_eq_false (by omega)
                          by_cases s3 : 8 ≤ x.2.hd
                          · have HNO := Lib.hid (HBAD.out (Or.inr (Or.inr (Or.inr (Or.inl s3)))))
                            have s3' : 8 ≤ x.2.hd := by omega
                            go_wp2_with fail
                            go_ret
                            exact ⟨by rw [HFA.out HNO.out]; rfl, HB9.out⟩
                          · have e3 : decide (8 ≤ x.2.hd) = false := decide_eq_false (by omega)
                            by_cases s4 : 4 < x.2.l.length
                            · have HNO := Lib.hid (HBAD.out (Or.inr (Or.inr (Or.inr (Or.inr s4)))))
                              have s4' : (4 : Int) < x.2.l.length := by omega
                              go_wp2_with fail
                              go_ret
                              exact ⟨by rw [HFA.out HNO.out]; rfl, HB9.out⟩
                            · have e4 : decide ((4 : Int) < x.2.l.length) = false := decide_eq_false (by omega)
                              have HG := Lib.hid (HGO.out (by omega))
                              clear s0 s1 s2 s3 s4
                              have hlt9 := HLT.out
                              go_wp2_with fail
                              go_roundw
                              case rel => exact ⟨j + 1, x.2.tk, by omega, by go_num, rfl, Lib.hid (more_trans HM.out HMO.out), HG⟩
                              case measure => have := HLT.out; simp [intOf]; omega
                  · obtain rfl : j = ln := by omega
                    rw [List.drop_of_length_le (by rw [HLN.out]; exact Nat.le_refl _)] at HEQ
                    have HF := Lib.hid (HEQ.out.1 ⟨by simp [arOkb], fun a h => by simp at h⟩)
                    go_wp2_with fail
                    go_ret
                    exact ⟨by rw [HF.out]; rfl, HBW.out⟩
/-- The specification's certificate. -/
structure RefAt (w : World) (arr : Array Value) (c : Cert) (kv : Value) : Prop where
  q : arr[32]? = some (.string c.q)
  hor : arr[33]? = some (.int .i64 c.hor)
  k35 : arr[35]? = some kv
  uv : arr[36]? = some c.uv
  hv : arr[37]? = some c.hv
  wit : arr[38]? = some (.int .i64 c.wit)
  spl : arr[39]? = some (.int .i64 c.spl)
  keys : Row anyB w 4 (keysG c.S).length kv (flatC kC (keysG c.S))
  und : Row anyB w 4 c.U.length c.uv (flatC kC c.U)
  hol : Row anyB w 4 c.H.length c.hv (flatC hC c.H)
  each : ∀ p ∈ c.H, HAt anyB w p
  ulen : c.U.length ≤ 16
  hlen : c.H.length ≤ 16
  slen : c.S.length ≤ 96
  asize : arr.size = 40
  bys : ∃ bv, arr[34]? = some bv ∧ ByG w (encS (c.S.map (·.2))) bv
theorem hasG_keys (l : List GV) (k : K4) : hasG l k = true ↔ k ∈ keysG l := by
  unfold hasG keysG
  rw [List.any_eq_true]
  constructor
  · rintro ⟨x, hx, e⟩
    exact List.mem_map.2 ⟨x, hx, of_decide_eq_true e⟩
  · intro h
    obtain ⟨x, hx, e⟩ := List.mem_map.1 h
    exact ⟨x, hx, decide_eq_true e⟩
end Go.Proofs.YtemeppfikpafbaaGreatDoor

