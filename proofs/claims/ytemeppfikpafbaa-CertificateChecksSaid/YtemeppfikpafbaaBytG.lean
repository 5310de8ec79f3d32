/- (choice.Set).Bytes (97) on any set. -/
import Derived.Test.YtemeppfikpafbaaPutG
import Derived.Test.YtemeppfikpafbaaGetG
namespace Go.Proofs.Ytemeppfikpafbaa
open Go.RowKit
def l6 (x : Cg) : List Nat := [x.k.a.toNat, x.k.b.toNat, x.k.n.toNat, x.t.toNat, x.d.toNat, x.l.length]
def encC (x : Cg) : List Int := x.k.kind :: ((l6 x).flatMap encU ++ x.l.flatMap fun v => encU (zz v))
def encS (l : List Cg) : List Int := encU l.length ++ l.flatMap encC
theorem flat_len_le {α : Type} {f : α → List Int} {m : Nat} : ∀ {l : List α}, (∀ x ∈ l, (f x).length ≤ m) → (l.flatMap f).length ≤ l.length * m
  | [], _ => by simp
  | x :: r, h => by
    rw [List.flatMap_cons, List.length_append, List.length_cons, Nat.add_mul]
    have h1 := h x (by simp)
    have h2 := flat_len_le (l := r) fun y hy => h y (List.mem_cons_of_mem _ hy)
    omega
theorem encU_le (v : Nat) (h : v < 18446744073709551616) : (encU v).length ≤ 10 := encU_len v h
theorem CgOk.small {x : Cg} (h : CgOk x) : ∀ v ∈ l6 x, v < 70000 := by
  have h1 := h.key
  have h2 := h1.a1; have h3 := h1.b1; have h4 := h1.n1; have h5 := h.t1; have h6 := h.d1; have h7 := h.args
  have hb : topB x.k.kind ≤ 7 := by unfold topB; split <;> (try split) <;> omega
  have ht : topT x.k.kind ≤ 200 := by unfold topT; split <;> omega
  have hd : topD x.k.kind ≤ 200 := by unfold topD; split <;> (try split) <;> (try split) <;> omega
  intro v hv
  simp only [l6, List.mem_cons, List.not_mem_nil, or_false] at hv
  rcases hv with rfl | rfl | rfl | rfl | rfl | rfl <;> omega
theorem encC_len {x : Cg} (h : CgOk x) (hi : ∀ v ∈ x.l, In64 v) : (encC x).length ≤ 101 := by
  unfold encC
  rw [List.length_cons, List.length_append]
  have h1 := flat_len_le (f := encU) (m := 10) (l := l6 x) fun v hv => encU_le v (by have := h.small v hv; omega)
  have h2 := flat_len_le (f := fun v => encU (zz v)) (m := 10) (l := x.l) fun v hv => encU_le _ (zz_lt (hi v hv).1 (hi v hv).2)
  have h3 := h.args
  have h4 : (l6 x).length = 6 := rfl
  rw [h4] at h1
  omega
theorem idx228_0 (a b c d e f : Value) (w : World) : (Instr.index 228 (.agg #[a, b, c, d, e, f]) (.int .i64 0)).run Try.prog w = .ok a w := by kernel_rfl
theorem idx228_1 (a b c d e f : Value) (w : World) : (Instr.index 228 (.agg #[a, b, c, d, e, f]) (.int .i64 1)).run Try.prog w = .ok b w := by kernel_rfl
theorem idx228_2 (a b c d e f : Value) (w : World) : (Instr.index 228 (.agg #[a, b, c, d, e, f]) (.int .i64 2)).run Try.prog w = .ok c w := by kernel_rfl
theorem idx228_3 (a b c d e f : Value) (w : World) : (Instr.index 228 (.agg #[a, b, c, d, e, f]) (.int .i64 3)).run Try.prog w = .ok d w := by kernel_rfl
theorem idx228_4 (a b c d e f : Value) (w : World) : (Instr.index 228 (.agg #[a, b, c, d, e, f]) (.int .i64 4)).run Try.prog w = .ok e w := by kernel_rfl
theorem idx228_5 (a b c d e f : Value) (w : World) : (Instr.index 228 (.agg #[a, b, c, d, e, f]) (.int .i64 5)).run Try.prog w = .ok f w := by kernel_rfl
set_option maxRecDepth 100000 in
set_option maxHeartbeats 4000000 in
theorem bytes97_any (l : List GV) (v : Value) (w : World) (hs : SetAt anyB w v l) (hi : ∀ p ∈ l, ∀ n ∈ p.2.l, In64 n) :
    Calls Try.prog 97 #[.agg #[v]] w fun e w' => (∃ v', e = .returned v' ∧ w'.ownsRow w.heap.size 5 1 v' (encS (l.map (·.2))).length (bV (encS (l.map (·.2))))) ∧ Below w.heap.size w w' := by
  obtain ⟨a, cap, rfl, _⟩ := hs.row.shape
  have HS := Lib.hid hs; clear hs
  have HI := Lib.hid hi; clear hi
  obtain ⟨i0, hi0, hz0, hz1, hz2⟩ := info_parts infoB
  have HLN := Lib.hid HS.out.len
  obtain ⟨ln, HLE⟩ : ∃ ln, Hid (l.length = ln) := ⟨_, Lib.hid rfl⟩
  rw [HLE.out] at HLN ⊢
  have HSB := Lib.hid (alloc_last w (.cells #[.slice a ln cap] 73))
  have HM1 := Lib.hid (more_alloc w (.cells #[.slice a ln cap] 73))
  obtain ⟨N, HN⟩ : ∃ N, Hid (N = w.heap.size) := ⟨_, Lib.hid rfl⟩
  rw [← HN.out] at HSB ⊢
  have hln := HLN.out
  have hw : IntKind.u64.wrap (ln : Int) = ln := by rw [IntKind.wrap_u64]; omega
  go_enter Try.func97, Try.ntmps97
  go_upto_region 1 with (fail)
  rw [← HN.out]
  generalize w.alloc (.cells #[.slice a ln cap] 73) = w1 at *
  have c0 : w1.cell? ⟨N, 0, none⟩ = some (.slice a ln cap) := cell_of_blk HSB.out rfl
  have hbc := cell_lt c0
  have HP0 := Lib.hid (put147_any [] (.slice none 0 0) ln w1 (by omega) (by simp) ⟨Row.nil _ _ _ _ _, fun n c e => by cases e; rfl⟩)
  go_wp2_with fail
  refine HP0.out.mono ?_
  rintro e w2 ⟨⟨v2, rfl, ho2⟩, hb2⟩
  rw [List.nil_append] at ho2
  have HM2 := Lib.hid (more_trans HM1.out (more_of hb2))
  have HSB2 := Lib.hid (((more_of hb2).block (blk_lt HSB.out)).trans HSB.out)
  have HO2 := Lib.hid (show w2.ownsRow (N + 1) 5 1 v2 (encU ln).length (bV (encU ln)) from owns_base ho2 (by have := blk_lt HSB.out; omega))
  have HB2 := Lib.hid (show Below N w w2 by rw [HN.out]; exact HM2.out.below)
  obtain ⟨va, vc, rfl, _⟩ := owns_shape ho2
  clear hb2 ho2 c0 hbc HP0
  have c0 : w2.cell? ⟨N, 0, none⟩ = some (.slice a ln cap) := cell_of_blk HSB2.out rfl
  have hbc := cell_lt c0
  go_wp2_with fail
  clear c0 hbc hw
  go_loopw [3, 18] (fun p i wr => ∃ (j : Nat) (O : List Int), j ≤ ln ∧ i = .int .i64 j ∧ Hid (wr.ownsRow (N + 1) 5 1 p O.length (bV O)) ∧ Hid (O = encU ln ++ ((l.take j).map (·.2)).flatMap encC) ∧ Hid (Below N w wr) ∧ Hid (N + 1 ≤ wr.heap.size) ∧ Hid (O.length ≤ 10 + j * 101)) (fun _ i _ => ln - (intOf i).toNat)
  case atStart => exact ⟨0, encU ln, Nat.zero_le _, rfl, HO2, Lib.hid (by simp), HB2, Lib.hid (blk_lt HSB2.out), Lib.hid (by have := encU_len ln (by omega); omega)⟩
  case round =>
    obtain ⟨j, O, hj, rfl, HO, HOE, HB, HNS, HOL⟩ := hrel
    obtain ⟨wo, rfl⟩ : ∃ wo : World, wo = wr := ⟨_, rfl⟩
    have HMW := Lib.hid (show More w wo from by have := HB.out; rw [HN.out] at this; exact more_of this)
    obtain ⟨oa, oc, rfl, _⟩ := owns_shape HO.out
    by_cases hlt : j < ln
    · have hjl : j < l.length := by rw [HLE.out]; exact hlt
      have hrw := HS.out.row
      obtain ⟨b, off, rfl, _, hc⟩ := hrw.atC gC_len hjl
      have g0 := HMW.out.cell (hc 0 (.int .u8 l[j].2.k.kind) rfl)
      have g1 := HMW.out.cell (hc 1 (.int .i64 l[j].2.k.a) rfl)
      have g2 := HMW.out.cell (hc 2 (.int .i64 l[j].2.k.b) rfl)
      have g3 := HMW.out.cell (hc 3 (.int .i64 l[j].2.k.n) rfl)
      have g4 := HMW.out.cell (hc 4 (.int .i64 l[j].2.t) rfl)
      have g5 := HMW.out.cell (hc 5 (.int .i64 l[j].2.d) rfl)
      have g6 := HMW.out.cell (hc 6 l[j].1 rfl)
      rw [Nat.add_zero] at g0
      clear hc hrw
      have HGA := Lib.hid (HS.out.arg _ (List.getElem_mem hjl))
      obtain ⟨xa, xc, hxv, _⟩ := HGA.out.row.shape
      rw [hxv] at g6
      have HXV := Lib.hid hxv
      clear hxv
      have HKO := Lib.hid (HS.out.ok _ (List.getElem_mem hjl))
      have HIX := Lib.hid (HI.out _ (List.getElem_mem hjl))
      have HT := Lib.hid (show (l.take (j + 1)).map (·.2) = (l.take j).map (·.2) ++ [l[j].2] by rw [List.take_succ_eq_append_getElem hjl, List.map_append]; rfl)
      have HLT := Lib.hid hlt
      generalize l[j] = x at *
      clear hjl
      obtain ⟨na, hna⟩ : ∃ na : Nat, x.2.k.a = na := ⟨x.2.k.a.toNat, by have := HKO.out.key.a0; omega⟩
      obtain ⟨nb, hnb⟩ : ∃ na : Nat, x.2.k.b = na := ⟨x.2.k.b.toNat, by have := HKO.out.key.b0; omega⟩
      obtain ⟨nn, hnn⟩ : ∃ na : Nat, x.2.k.n = na := ⟨x.2.k.n.toNat, by have := HKO.out.key.n0; omega⟩
      obtain ⟨nt, hnt⟩ : ∃ na : Nat, x.2.t = na := ⟨x.2.t.toNat, by have := HKO.out.t0; omega⟩
      obtain ⟨nd, hnd⟩ : ∃ na : Nat, x.2.d = na := ⟨x.2.d.toNat, by have h1 := HKO.out.d0; have h2 : 0 ≤ lowD x.2.k.kind := (by unfold lowD; split <;> omega); omega⟩
      obtain ⟨an, HAN⟩ : ∃ an, Hid (x.2.l.length = an) := ⟨_, Lib.hid rfl⟩
      have HL6 := Lib.hid (show l6 x.2 = [na, nb, nn, nt, nd, an] by unfold l6; rw [hna, hnb, hnn, hnt, hnd, HAN.out]; rfl)
      have HSM := Lib.hid (show na < 70000 ∧ nb < 70000 ∧ nn < 70000 ∧ nt < 70000 ∧ nd < 70000 ∧ an < 70000 from by
        have h1 := HKO.out.small
        rw [HL6.out] at h1
        exact ⟨h1 na (by simp), h1 nb (by simp), h1 nn (by simp), h1 nt (by simp), h1 nd (by simp), h1 an (by simp)⟩)
      rw [hna] at g1
      rw [hnb] at g2
      rw [hnn] at g3
      rw [hnt] at g4
      rw [hnd] at g5
      rw [HAN.out] at g6
      clear hna hnb hnn hnt hnd
      have HCL := Lib.hid (encC_len HKO.out HIX.out)
      obtain ⟨kd, HKD⟩ : ∃ kd, Hid (x.2.k.kind = kd) := ⟨_, Lib.hid rfl⟩
      rw [HKD.out] at g0
      have hbg := cell_lt g0
      have HXB := Lib.hid (alloc_last wo (.cells #[.int .u8 kd, .int .i64 na, .int .i64 nb, .int .i64 nn, .int .i64 nt, .int .i64 nd, .slice xa an xc] 113))
      have HMO := Lib.hid (more_alloc wo (.cells #[.int .u8 kd, .int .i64 na, .int .i64 nb, .int .i64 nn, .int .i64 nt, .int .i64 nd, .slice xa an xc] 113))
      go_upto_region 5 with (fail)
      clear g0 g1 g2 g3 g4 g5 g6 hbg
      generalize wo.alloc (.cells #[.int .u8 kd, .int .i64 na, .int .i64 nb, .int .i64 nn, .int .i64 nt, .int .i64 nd, .slice xa an xc] 113) = w5 at *
      obtain ⟨XB, HXE⟩ : ∃ XB, Hid (XB = wo.heap.size) := ⟨_, Lib.hid rfl⟩
      rw [← HXE.out] at HXB ⊢
      have HO5 := Lib.hid (owns_keep HO.out (fun z hz => HMO.out.block (HO.out.lt z hz).2))
      have HS5 := Lib.hid (Nat.le_trans HNS.out HMO.out.size)
      have x0 : w5.cell? ⟨XB, 0, none⟩ = some (.int .u8 kd) := cell_of_blk HXB.out rfl
      have hbx := cell_lt x0
      have HR1 := Lib.hid (show O.length + 1 ≤ maxLen ∧ (O.length + 1) * 1 ≤ 140737488355328 from by have h1 := HOL.out; have h2 := HLN.out; unfold maxLen; omega)
      go_upto_region 6 with (at_builtin; refine wpList_append_own _ rfl _ _ 92 rfl (N + 1) 5 i0 _ 1 1 Try.underlying92 hi0 hz0 hz1 hz2 rfl (by omega) (.slice oa O.length oc) O.length (bV O) rfl (owns_keep HO5.out (fun z hz => Below.heap_alloc w5 _ _ (HO5.out.lt z hz).2)) ⟨w5.heap.size, 0, none⟩ 1 1 [.int .u8 kd] rfl rfl (World.news_of_block (cs := #[.int .u8 kd]) (t := 5) (fr := (0, 0)) (alloc_last _ _)) (by simp [Value.oneCell']) HR1.out.1 HR1.out.2 (by rw [World.size_alloc]; exact Nat.le_succ_of_le HS5.out) ?_; intro v6 w6 hown6 hgrow6 _)
      have HXB6 := Lib.hid ((hgrow6.block XB (by rw [World.size_alloc]; exact Nat.lt_succ_of_lt (blk_lt HXB.out)) (fun e => by have h1 := (HO.out.lt XB e.symm).2; have h2 := HXE.out; omega)).trans ((Below.heap_alloc w5 _ _ (blk_lt HXB.out)).trans HXB.out))
      have HB6 := Lib.hid (show Below N w w6 from ((HB.out.trans (HMO.out.below.mono (by have := HNS.out; omega))).alloc (by have := HS5.out; omega) _).grown hgrow6 (by rw [World.size_alloc]; have := HS5.out; omega) (fun z hz => by have := (HO.out.lt z hz).1; omega))
      have HS6 := Lib.hid (show N + 1 ≤ w6.heap.size from Nat.le_trans (by rw [World.size_alloc]; exact Nat.le_succ_of_le HS5.out) hgrow6.size)
      have HO6 := Lib.hid (show w6.ownsRow (N + 1) 5 1 v6 (O ++ [kd]).length (bV (O ++ [kd])) by rw [bV_push, List.length_append]; exact hown6)
      have HMWA := Lib.hid (show More w w6 from by have := HB6.out; rw [HN.out] at this; exact more_of this)
      obtain ⟨oa6, oc6, rfl, _⟩ := owns_shape hown6
      clear hown6 hgrow6 x0 hbx
      have x1 : w6.cell? ⟨XB, 1, none⟩ = some (.int .i64 na) := cell_of_blk HXB6.out rfl
      have x2 : w6.cell? ⟨XB, 2, none⟩ = some (.int .i64 nb) := cell_of_blk HXB6.out rfl
      have x3 : w6.cell? ⟨XB, 3, none⟩ = some (.int .i64 nn) := cell_of_blk HXB6.out rfl
      have x4 : w6.cell? ⟨XB, 4, none⟩ = some (.int .i64 nt) := cell_of_blk HXB6.out rfl
      have x5 : w6.cell? ⟨XB, 5, none⟩ = some (.int .i64 nd) := cell_of_blk HXB6.out rfl
      have x6 : w6.cell? ⟨XB, 6, none⟩ = some (.slice xa an xc) := cell_of_blk HXB6.out rfl
      have hbx := cell_lt x1
      go_wp2_with fail
      clear x1 x2 x3 x4 x5 x6 hbx
      go_loopw [3, 45] (fun p i wx => ∃ (m : Nat) (Q : List Int), m ≤ 6 ∧ i = .int .i64 m ∧ Hid (wx.ownsRow (N + 1) 5 1 p Q.length (bV Q)) ∧ Hid (Q = O ++ [kd] ++ ((l6 x.2).take m).flatMap encU) ∧ Hid (More w6 wx) ∧ Hid (Q.length ≤ O.length + 1 + m * 10)) (fun _ i _ => 6 - (intOf i).toNat)
      case atStart => exact ⟨0, O ++ [kd], by omega, rfl, by simpa using HO6, Lib.hid (by simp), Lib.hid (World.grownBy.refl _ _), Lib.hid (by simp)⟩
      case round =>
        obtain ⟨m, Q, hm, rfl, HQ, HQE, HMX, HQL⟩ := hrel
        obtain ⟨wx, rfl⟩ : ∃ wx : World, wx = wr := ⟨_, rfl⟩
        obtain ⟨qa, qc, rfl, _⟩ := owns_shape HQ.out
        have hsm := HSM.out
        by_cases hm6 : m < 6
        · have HPU := Lib.hid (fun (u : Nat) (hu : u < 70000) => put147_any Q _ u wx (by omega) (by have h1 := HQL.out; have h2 := HOL.out; have h3 := HLN.out; omega) (ByG.of_owns HQ.out))
          have HSX := Lib.hid (Nat.le_trans HS6.out HMX.out.size)
          have hwu : ∀ u : Nat, u < 70000 → IntKind.u64.wrap (u : Int) = u := fun u hu => by rw [IntKind.wrap_u64]; omega
          have hw0 := hwu na hsm.1
          have hw1 := hwu nb hsm.2.1
          have hw2 := hwu nn hsm.2.2.1
          have hw3 := hwu nt hsm.2.2.2.1
          have hw4 := hwu nd hsm.2.2.2.2.1
          have hw5 := hwu an hsm.2.2.2.2.2
          clear hwu
          have hmc : m = 0 ∨ m = 1 ∨ m = 2 ∨ m = 3 ∨ m = 4 ∨ m = 5 := by omega
          rcases hmc with rfl | rfl | rfl | rfl | rfl | rfl
          · have hix := fun a b c d e f W => idx228_0 a b c d e f W
            go_wp2_with fail
            refine (HPU.out na hsm.1).mono ?_
            rintro e w8 ⟨⟨v8, rfl, ho8⟩, hb8⟩
            have HO8 := Lib.hid (owns_base ho8 HSX.out)
            have HM8 := Lib.hid (more_trans HMX.out (more_of hb8))
            obtain ⟨va8, vc8, rfl, _⟩ := owns_shape ho8
            clear ho8 hb8
            go_wp2_with fail
            go_roundw
            case rel => exact ⟨1, Q ++ encU na, by omega, by go_num, Lib.hid (by rw [← List.length_append]; exact HO8.out), Lib.hid (by rw [HQE.out, HL6.out]; simp [List.flatMap_cons, List.append_assoc]), HM8, Lib.hid (by rw [List.length_append]; have h1 := HQL.out; have h2 := encU_len na (by omega); omega)⟩
            case measure => simp [intOf]
          · have hix := fun a b c d e f W => idx228_1 a b c d e f W
            go_wp2_with fail
            refine (HPU.out nb hsm.2.1).mono ?_
            rintro e w8 ⟨⟨v8, rfl, ho8⟩, hb8⟩
            have HO8 := Lib.hid (owns_base ho8 HSX.out)
            have HM8 := Lib.hid (more_trans HMX.out (more_of hb8))
            obtain ⟨va8, vc8, rfl, _⟩ := owns_shape ho8
            clear ho8 hb8
            go_wp2_with fail
            go_roundw
            case rel => exact ⟨2, Q ++ encU nb, by omega, by go_num, Lib.hid (by rw [← List.length_append]; exact HO8.out), Lib.hid (by rw [HQE.out, HL6.out]; simp [List.flatMap_cons, List.append_assoc]), HM8, Lib.hid (by rw [List.length_append]; have h1 := HQL.out; have h2 := encU_len nb (by omega); omega)⟩
            case measure => simp [intOf]
          · have hix := fun a b c d e f W => idx228_2 a b c d e f W
            go_wp2_with fail
            refine (HPU.out nn hsm.2.2.1).mono ?_
            rintro e w8 ⟨⟨v8, rfl, ho8⟩, hb8⟩
            have HO8 := Lib.hid (owns_base ho8 HSX.out)
            have HM8 := Lib.hid (more_trans HMX.out (more_of hb8))
            obtain ⟨va8, vc8, rfl, _⟩ := owns_shape ho8
            clear ho8 hb8
            go_wp2_with fail
            go_roundw
            case rel => exact ⟨3, Q ++ encU nn, by omega, by go_num, Lib.hid (by rw [← List.length_append]; exact HO8.out), Lib.hid (by rw [HQE.out, HL6.out]; simp [List.flatMap_cons, List.append_assoc]), HM8, Lib.hid (by rw [List.length_append]; have h1 := HQL.out; have h2 := encU_len nn (by omega); omega)⟩
            case measure => simp [intOf]
          · have hix := fun a b c d e f W => idx228_3 a b c d e f W
            go_wp2_with fail
            refine (HPU.out nt hsm.2.2.2.1).mono ?_
            rintro e w8 ⟨⟨v8, rfl, ho8⟩, hb8⟩
            have HO8 := Lib.hid (owns_base ho8 HSX.out)
            have HM8 := Lib.hid (more_trans HMX.out (more_of hb8))
            obtain ⟨va8, vc8, rfl, _⟩ := owns_shape ho8
            clear ho8 hb8
            go_wp2_with fail
            go_roundw
            case rel => exact ⟨4, Q ++ encU nt, by omega, by go_num, Lib.hid (by rw [← List.length_append]; exact HO8.out), Lib.hid (by rw [HQE.out, HL6.out]; simp [List.flatMap_cons, List.append_assoc]), HM8, Lib.hid (by rw [List.length_append]; have h1 := HQL.out; have h2 := encU_len nt (by omega); omega)⟩
            case measure => simp [intOf]
          · have hix := fun a b c d e f W => idx228_4 a b c d e f W
            go_wp2_with fail
            refine (HPU.out nd hsm.2.2.2.2.1).mono ?_
            rintro e w8 ⟨⟨v8, rfl, ho8⟩, hb8⟩
            have HO8 := Lib.hid (owns_base ho8 HSX.out)
            have HM8 := Lib.hid (more_trans HMX.out (more_of hb8))
            obtain ⟨va8, vc8, rfl, _⟩ := owns_shape ho8
            clear ho8 hb8
            go_wp2_with fail
            go_roundw
            case rel => exact ⟨5, Q ++ encU nd, by omega, by go_num, Lib.hid (by rw [← List.length_append]; exact HO8.out), Lib.hid (by rw [HQE.out, HL6.out]; simp [List.flatMap_cons, List.append_assoc]), HM8, Lib.hid (by rw [List.length_append]; have h1 := HQL.out; have h2 := encU_len nd (by omega); omega)⟩
            case measure => simp [intOf]
          · have hix := fun a b c d e f W => idx228_5 a b c d e f W
            go_wp2_with fail
            refine (HPU.out an hsm.2.2.2.2.2).mono ?_
            rintro e w8 ⟨⟨v8, rfl, ho8⟩, hb8⟩
            have HO8 := Lib.hid (owns_base ho8 HSX.out)
            have HM8 := Lib.hid (more_trans HMX.out (more_of hb8))
            obtain ⟨va8, vc8, rfl, _⟩ := owns_shape ho8
            clear ho8 hb8
            go_wp2_with fail
            go_roundw
            case rel => exact ⟨6, Q ++ encU an, by omega, by go_num, Lib.hid (by rw [← List.length_append]; exact HO8.out), Lib.hid (by rw [HQE.out, HL6.out]; simp [List.flatMap_cons, List.append_assoc]), HM8, Lib.hid (by rw [List.length_append]; have h1 := HQL.out; have h2 := encU_len an (by omega); omega)⟩
            case measure => simp [intOf]
        · have HM6E := Lib.hid (show m = 6 by omega)
          have hmd : decide ((m : Int) < 6) = false := decide_eq_false (by omega)
          have hQE := HQE.out
          rw [HM6E.out] at hQE
          have HQE := Lib.hid hQE; clear hQE
          clear hm6 hm
          have HXB8 := Lib.hid ((HMX.out.block (blk_lt HXB6.out)).trans HXB6.out)
          have x6 : wx.cell? ⟨XB, 6, none⟩ = some (.slice xa an xc) := cell_of_blk HXB8.out rfl
          have hbx := cell_lt x6
          have hal : an ≤ 4 := by have h1 := HKO.out.args; have h2 := HAN.out; omega
          have HAL := Lib.hid hal
          go_wp2_with fail
          clear x6 hbx
          go_loopw [3, 56] (fun p i wz => ∃ (y : Nat) (Z : List Int), y ≤ an ∧ i = .int .i64 y ∧ Hid (wz.ownsRow (N + 1) 5 1 p Z.length (bV Z)) ∧ Hid (Z = Q ++ (x.2.l.take y).flatMap fun v => encU (zz v)) ∧ Hid (More wx wz) ∧ Hid (Z.length ≤ Q.length + y * 10)) (fun _ i _ => an - (intOf i).toNat)
          case atStart => exact ⟨0, Q, by omega, rfl, HQ, Lib.hid (by simp), Lib.hid (World.grownBy.refl _ _), Lib.hid (by simp)⟩
          case round =>
            obtain ⟨y, Z, hy, rfl, HZ, HZE, HMY, HZL⟩ := hrel
            obtain ⟨wz, rfl⟩ : ∃ wz : World, wz = wr := ⟨_, rfl⟩
            obtain ⟨za, zc, rfl, _⟩ := owns_shape HZ.out
            have hal := HAL.out
            have HMZ := Lib.hid (more_trans HMWA.out (more_trans HMX.out HMY.out))
            by_cases hyt : y < an
            · have hyl : y < x.2.l.length := by rw [HAN.out]; exact hyt
              have hrw := HGA.out.row
              rw [HXV.out] at hrw
              obtain ⟨b2, off2, rfl, _, hc⟩ := hrw.atC nC_len hyl
              have HWZ := HMZ
              have e0 := HWZ.out.cell (hc 0 (.int .i64 x.2.l[y]) rfl)
              rw [Nat.add_zero, Nat.mul_one] at e0
              clear hc hrw
              have HT2 := Lib.hid (show x.2.l.take (y + 1) = x.2.l.take y ++ [x.2.l[y]] from List.take_succ_eq_append_getElem hyl)
              have HIN := Lib.hid (HIX.out _ (List.getElem_mem hyl))
              have HYT := Lib.hid hyt
              generalize x.2.l[y] = n at *
              clear hyl
              have hbe := cell_lt e0
              have HPU := Lib.hid (putInt103_any Z _ n wz HIN.out.1 HIN.out.2 (by have h1 := HZL.out; have h2 := HQL.out; have h3 := HOL.out; have h4 := HLN.out; have h5 := HM6E.out; omega) (ByG.of_owns HZ.out))
              have HSZ := Lib.hid (Nat.le_trans HS6.out (more_trans HMX.out HMY.out).size)
              go_wp2_with fail
              refine HPU.out.mono ?_
              rintro e w8 ⟨⟨v8, rfl, ho8⟩, hb8⟩
              have HO8 := Lib.hid (owns_base ho8 HSZ.out)
              have HM8 := Lib.hid (more_trans HMY.out (more_of hb8))
              obtain ⟨va8, vc8, rfl, _⟩ := owns_shape ho8
              clear ho8 hb8 e0 hbe
              have hyt9 := HYT.out
              go_wp2_with fail
              go_roundw
              case rel => exact ⟨y + 1, Z ++ encU (zz n), by omega, by go_num, Lib.hid (by rw [← List.length_append]; exact HO8.out), Lib.hid (by rw [HZE.out, HT2.out]; simp [List.flatMap_append, List.append_assoc]), HM8, Lib.hid (by rw [List.length_append]; have h1 := HZL.out; have h2 := encU_len _ (zz_lt HIN.out.1 HIN.out.2); omega)⟩
              case measure => have := HYT.out; simp [intOf]; omega
            · obtain rfl : y = an := by omega
              rw [List.take_of_length_le (by rw [HAN.out]; exact Nat.le_refl _)] at HZE
              have HZF := Lib.hid (show Z = O ++ encC x.2 by rw [HZE.out, HQE.out, HL6.out]; unfold encC; rw [HKD.out, HL6.out]; simp [List.append_assoc])
              have hlt9 := HLT.out
              have hln9 := HLN.out
              go_wp2_with fail
              go_roundw
              case rel => exact ⟨j + 1, Z, by omega, by go_num, HZ, Lib.hid (by rw [HZF.out, HOE.out, HT.out, List.flatMap_append, List.flatMap_singleton, List.append_assoc]), Lib.hid (show Below N w wz by rw [HN.out]; exact HMZ.out.below), Lib.hid (Nat.le_trans HS6.out (more_trans HMX.out HMY.out).size), Lib.hid (by rw [HZF.out, List.length_append]; have h1 := HCL.out; have h2 := HOL.out; omega)⟩
              case measure => have := HLT.out; simp [intOf]; omega
    · obtain rfl : j = ln := by omega
      rw [List.take_of_length_le (by rw [HLE.out]; exact Nat.le_refl _)] at HOE
      have HEE := Lib.hid (show O = encS (l.map (·.2)) by unfold encS; rw [List.length_map, HLE.out]; exact HOE.out)
      go_wp2_with fail
      go_ret
      rw [← HEE.out]
      exact ⟨⟨_, rfl, owns_base HO.out (Nat.le_succ _)⟩, HB.out⟩
end Go.Proofs.Ytemeppfikpafbaa
