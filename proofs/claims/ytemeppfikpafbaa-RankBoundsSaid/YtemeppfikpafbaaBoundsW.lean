/- The walk of RankBounds (7). -/
import Derived.Test.YtemeppfikpafbaaMaxW
import Derived.Test.YtemeppfikpafbaaJointW
import Derived.Test.YtemeppfikpafbaaInvS
import Derived.Test.YtemeppfikpafbaaGrowsW
import Derived.Deep.DeepCutAuto
namespace Go.Proofs.Ytemeppfikpafbaa
open Go.RowKit Go.ChangeShapes Go.WideShapes Go.Sort Go.Shelf
theorem info32 : (Try.prog.info? 32).map (fun i => (i.zero, i.size, i.bytes)) = some (some (.agg #[.int .i64 0, .int .i64 0]), 2, 16) := by kernel_rfl
structure InvB (w1 : World) (L : List Cau) (v2 kv : Value) (A B : Value) (k : K4) (r : Int) (b0 b1 b2 b3 b4 b5 b6 b7 b8 b9 b10 : Bool) (x102 x103 x104 x105 x106 x107 x108 x109 x110 x111 x112 : Value) (W : World) : Prop where
  hl : Hid (More w1 W)
  g0 : b0 = true → x102 = v2
  g1 : b1 = true → b3 = false → Hid (CRow W L x103)
  g2 : b2 = true → x104 = kv
  g3 : b3 = true → x105 = A
  g4 : b4 = true → x106 = v2
  g5 : b5 = true → b8 = false → Hid (CRow W L x107)
  g6 : b6 = true → x108 = .agg #[.int .u8 k.kind, .int .i64 k.a, .int .i64 k.b, .int .i64 k.n]
  g7 : b7 = true → b8 = false → ∃ g, x109 = .slice (some ⟨g, 0, none⟩) 1 1 ∧ W.heap[g]? = some (.cells #[.int .u8 k.kind, .int .i64 k.a, .int .i64 k.b, .int .i64 k.n] 48)
  g8 : b8 = true → x110 = B
  g9 : b9 = true → x111 = .int .i64 r
  g10 : b10 = true → x112 = .bool false
set_option maxRecDepth 100000 in
set_option maxHeartbeats 40000000 in
theorem rankBounds_walk (l0 : List Cau) (ks : List K4) (v u : Value) (w : World) (h : InL w l0 v) (hk : KIn w ks u) : Calls Try.prog 7 #[v, u] w fun e w' => e = .returned (.bool true) ∧ Below w.heap.size w w' := by
  obtain ⟨ka, kcap, rfl, _⟩ := hk.row.shape
  obtain ⟨_, hrow, hsl, hmn⟩ := hk.cut
  have HI := Lib.hid h; clear h
  have HKR := Lib.hid hrow
  have HKO := Lib.hid (show ∀ x ∈ ks.take 3, x.Ok from fun x hx => hk.ok x (List.mem_of_mem_take hx))
  have HKL := Lib.hid (show (ks.take 3).length ≤ 3 by rw [List.length_take]; omega)
  have HKN := Lib.hid hk.len
  have HAW := Lib.hid (awake_any w)
  obtain ⟨i0, hi0, hz0, hz1, hz2⟩ := info_parts info32
  clear hrow hk
  have hkm : ks.length ≤ 9223372036854775807 := by have := HKN.out; unfold maxLen at this; exact this
  have hp : (ks.take 3).length ≤ ks.length := by rw [List.length_take]; exact Nat.min_le_right _ _
  generalize ks.take 3 = kk at *
  go_enter Try.func7, Try.ntmps7
  go_wp2_with fail
  refine HAW.out.mono ?_
  rintro e w1 ⟨rfl, hm1⟩
  have HM1 := Lib.hid hm1
  clear hm1 HAW
  go_upto_region 3 with (fail)
  go_cut [0, 1] (fun s0 s1 wx => s1 = .slice ka kk.length kcap ∧ Hid (CRow wx (fewL l0) s0) ∧ Hid (More w1 wx))
  case first =>
   have HF := Lib.hid (fun W (hW : More w1 W) => few_any l0 _ W HI.out.len HI.out.each (HI.out.row.more (more_trans HM1.out hW)))
   have HL := Lib.hid (more_drew w1)
   go_region_held3 (fun _ => True) (trivial) (first | (go_at_call 20; refine (HF.out _ HL.out).mono ?_; rintro e w2 ⟨⟨v2, rfl, hc2⟩, hb2⟩))
   all_goals
    go_wp2_with fail
    go_meet
    case rel => exact ⟨rfl, Lib.hid hc2, Lib.hid (more_trans HL.out (more_of hb2))⟩
  case rest =>
    obtain ⟨rfl, HC2, HMC⟩ := hcut
    obtain ⟨w2, rfl⟩ : ∃ w2 : World, w2 = wc := ⟨_, rfl⟩
    have HOK := Lib.hid (fewL_ok HI.out.ok)
    have HLN := Lib.hid (fewL_len l0)
    have HM2 := Lib.hid (more_trans HM1.out HMC.out)
    clear HI HM1 HMC
    generalize fewL l0 = L at *
    obtain ⟨a2, cap2, rfl, _⟩ := HC2.out.shape
    have HKR2 := Lib.hid (HKR.out.below HM2.out.below)
    clear hsl hmn hkm hp HKR HKN
    have HL8 := Lib.hid (show L.length ≤ 1000 by have := HLN.out; omega)
    go_wp2_with fail
    refine (causes_any L _ w2 HL8.out HC2.out).mono ?_
    rintro e w3 ⟨⟨v3, rfl, hc3⟩, hb3⟩
    have HC3 := Lib.hid hc3
    have HM3 := Lib.hid (more_of hb3)
    clear hc3 hb3
    go_wp2_with fail
    refine (degrees_any L _ w3 (by have := HLN.out; omega) HOK.out HC3.out).mono ?_
    rintro e w4 ⟨s, sv, his, rfl, ho4, hb4⟩
    have HS := Lib.hid his
    have HSR := Lib.hid ((Row.of_owns ho4).mono (S' := anyB) (fun _ _ => trivial) (fun _ _ _ _ h => h))
    have HM4 := Lib.hid (more_trans HM3.out (more_of hb4))
    have HSL := Lib.hid (show s.length ≤ 4000 by have h1 := shares_len his; have := keysL_bound HOK.out HLN.out; omega)
    obtain ⟨sa, scap, rfl, _⟩ := HSR.out.shape
    clear his ho4 hb4
    have hsl := HSL.out
    have hSL := HSL
    obtain ⟨N, HN⟩ : ∃ N, Hid (N = w4.heap.size) := ⟨_, Lib.hid rfl⟩
    go_wp2_with fail
    go_loopw [6, 26] (fun d i wr => ∃ j : Nat, j ≤ s.length ∧ i = .int .i64 j ∧ Hid (Below N w4 wr) ∧ Hid (wr.ownsRow N 32 2 d j (flatC dC ((s.take j).map (·.2))))) (fun _ i _ => s.length - (intOf i).toNat)
    case atStart => exact ⟨0, Nat.zero_le _, rfl, Lib.hid (Below.refl _ _), Lib.hid (by simpa [flatC] using World.ownsRow_nil _ _ _ _)⟩
    case round =>
      obtain ⟨j, hj, rfl, HB, HO⟩ := hrel
      obtain ⟨oa, ocap, rfl, _⟩ := owns_shape HO.out
      have HBW := Lib.hid (show Below w4.heap.size w4 wr by rw [← HN.out]; exact HB.out)
      have HNW := Lib.hid (show N ≤ wr.heap.size by rw [HN.out]; exact HBW.out.size)
      by_cases hlt : j < s.length
      · obtain ⟨b, off, rfl, _, hc⟩ := HSR.out.atC sC_len hlt
        have HXP := Lib.hid (shares_pos HS.out (List.getElem_mem hlt))
        have HXL := Lib.hid (show s[j].2.val ≤ 1000 by have := s[j].2.isLt; omega)
        have HDT := Lib.hid (show (s.take (j + 1)).map (·.2) = (s.take j).map (·.2) ++ [s[j].2] by rw [List.take_succ_eq_append_getElem hlt, List.map_append]; rfl)
        have HDX := Lib.hid (show dC s[j].2 = [.int .i64 1, .int .i64 (s[j].2.val : Int)] by unfold dC; rw [degR_one HXP.out])
        have g0 := below_cell HBW.out (hc 0 (.int .u8 s[j].1.kind) rfl)
        have g1 := below_cell HBW.out (hc 1 (.int .i64 s[j].1.a) rfl)
        have g2 := below_cell HBW.out (hc 2 (.int .i64 s[j].1.b) rfl)
        have g3 := below_cell HBW.out (hc 3 (.int .i64 s[j].1.n) rfl)
        have g4 := below_cell HBW.out (hc 4 (.int .i64 (degR s[j].2.val).1) rfl)
        have g5 := below_cell HBW.out (hc 5 (.int .i64 (degR s[j].2.val).2) rfl)
        rw [Nat.add_zero] at g0
        rw [degR_one HXP.out] at g4 g5
        dsimp only at g4 g5
        have HPREV := Lib.hid (show ∀ i, i + 1 = j → ∃ (h : i < s.length), (0 < cmpR (degR s[i].2.val) (degR s[j].2.val) ∨ (cmpR (degR s[i].2.val) (degR s[j].2.val) = 0 ∧ cmpK4 s[i].1 s[j].1 < 0)) from fun i e => by
          subst e
          exact ⟨by omega, shares_adj HS.out hlt⟩)
        have HRC := Lib.hid (fun i (hi : i < s.length) => HSR.out.atC sC_len hi)
        clear hc
        generalize hx : s[j] = x at *
        clear hx
        have hbg := cell_lt g0
        have HVA := Lib.hid (show ∀ W, Calls Try.prog 31 #[.agg #[.int .i64 1, .int .i64 x.2.val]] W fun e w' => e = .returned (.bool true) ∧ Lay W w' from fun W => by
          have := valid_any (degR x.2.val) W (degR_ok HXL.out)
          rw [degR_one HXP.out] at this; exact this)
        obtain ⟨r1, HR1⟩ : ∃ r, Hid (cmpR (degR x.2.val) (degR 1) = r) := ⟨_, Lib.hid rfl⟩
        obtain ⟨r2, HR2⟩ : ∃ r, Hid (cmpR (degR x.2.val) (degR 0) = r) := ⟨_, Lib.hid rfl⟩
        have HC1 := Lib.hid (show ∀ W, Calls Try.prog 30 #[.agg #[.int .i64 1, .int .i64 x.2.val], .agg #[.int .i64 1, .int .i64 1]] W fun e w' => e = .returned (.int .i64 r1) ∧ Lay W w' from fun W => by
          have := cmpR_any (degR x.2.val) (degR 1) W (degR_ok HXL.out) (degR_ok (by omega))
          rw [HR1.out, degR_one HXP.out] at this; exact this)
        have HC0 := Lib.hid (show ∀ W, Calls Try.prog 30 #[.agg #[.int .i64 1, .int .i64 x.2.val], .agg #[.int .i64 0, .int .i64 1]] W fun e w' => e = .returned (.int .i64 r2) ∧ Lay W w' from fun W => by
          have := cmpR_any (degR x.2.val) (degR 0) W (degR_ok HXL.out) (degR_ok (by omega))
          rw [HR2.out, degR_one HXP.out] at this; exact this)
        have t1 : decide (0 < r1) = false := by have := bnd_top HXP.out; rw [HR1.out] at this; simp; omega
        have t2 : decide (r2 ≤ 0) = false := by have := bnd_low HXP.out; rw [HR2.out] at this; simp; omega
        have HR2P := Lib.hid (show 0 < r2 by have := bnd_low HXP.out; rw [HR2.out] at this; exact this)
        have HXB := Lib.hid (alloc_last wr (.cells #[.int .u8 x.1.kind, .int .i64 x.1.a, .int .i64 x.1.b, .int .i64 x.1.n, .int .i64 1, .int .i64 x.2.val] 50))
        have HMX := Lib.hid (more_alloc wr (.cells #[.int .u8 x.1.kind, .int .i64 x.1.a, .int .i64 x.1.b, .int .i64 x.1.n, .int .i64 1, .int .i64 x.2.val] 50))
        generalize hn : ((x.2.val : Nat) : Int) = n at *
        have HNN := Lib.hid hn; clear hn
        go_upto_region 9 with (fail)
        have HB1 := Lib.hid (HB.out.alloc HNW.out (.cells #[.int .u8 x.1.kind, .int .i64 x.1.a, .int .i64 x.1.b, .int .i64 x.1.n, .int .i64 1, .int .i64 n] 50))
        have HO1 := Lib.hid (owns_keep HO.out (fun z hz => HMX.out.block ((owns_shape HO.out).choose_spec.choose_spec.2 z hz).2))
        have HNW1 := Lib.hid (Nat.le_trans HNW.out HMX.out.size)
        clear g0 g1 g2 g3 g4 g5 hbg
        generalize wr.alloc (.cells #[.int .u8 x.1.kind, .int .i64 x.1.a, .int .i64 x.1.b, .int .i64 x.1.n, .int .i64 1, .int .i64 n] 50) = w5 at *
        generalize wr.heap.size = XB at *
        have c0 : w5.cell? ⟨XB, 0, none⟩ = some (.int .u8 x.1.kind) := cell_of_blk HXB.out rfl
        have c1 : w5.cell? ⟨XB, 1, none⟩ = some (.int .i64 x.1.a) := cell_of_blk HXB.out rfl
        have c2 : w5.cell? ⟨XB, 2, none⟩ = some (.int .i64 x.1.b) := cell_of_blk HXB.out rfl
        have c3 : w5.cell? ⟨XB, 3, none⟩ = some (.int .i64 x.1.n) := cell_of_blk HXB.out rfl
        have c4 : w5.cell? ⟨XB, 4, none⟩ = some (.int .i64 1) := cell_of_blk HXB.out rfl
        have c5 : w5.cell? ⟨XB, 5, none⟩ = some (.int .i64 n) := cell_of_blk HXB.out rfl
        go_wp2_with fail
        refine (HVA.out _).mono ?_
        rintro e w6 ⟨rfl, hl6⟩
        have HM6 := Lib.hid hl6.1
        have HXB6 := Lib.hid ((hl6.1.block (blk_lt HXB.out)).trans HXB.out)
        clear hl6 c0 c1 c2 c3 c4 c5
        have c0 : w6.cell? ⟨XB, 0, none⟩ = some (.int .u8 x.1.kind) := cell_of_blk HXB6.out rfl
        have c1 : w6.cell? ⟨XB, 1, none⟩ = some (.int .i64 x.1.a) := cell_of_blk HXB6.out rfl
        have c2 : w6.cell? ⟨XB, 2, none⟩ = some (.int .i64 x.1.b) := cell_of_blk HXB6.out rfl
        have c3 : w6.cell? ⟨XB, 3, none⟩ = some (.int .i64 x.1.n) := cell_of_blk HXB6.out rfl
        have c4 : w6.cell? ⟨XB, 4, none⟩ = some (.int .i64 1) := cell_of_blk HXB6.out rfl
        have c5 : w6.cell? ⟨XB, 5, none⟩ = some (.int .i64 n) := cell_of_blk HXB6.out rfl
        go_wp2_with fail
        refine (HC1.out _).mono ?_
        rintro e w7 ⟨rfl, hl7⟩
        have HM7 := Lib.hid (more_trans HM6.out hl7.1)
        have HXB7 := Lib.hid ((hl7.1.block (blk_lt HXB6.out)).trans HXB6.out)
        clear hl7 c0 c1 c2 c3 c4 c5
        have c0 : w7.cell? ⟨XB, 0, none⟩ = some (.int .u8 x.1.kind) := cell_of_blk HXB7.out rfl
        have c1 : w7.cell? ⟨XB, 1, none⟩ = some (.int .i64 x.1.a) := cell_of_blk HXB7.out rfl
        have c2 : w7.cell? ⟨XB, 2, none⟩ = some (.int .i64 x.1.b) := cell_of_blk HXB7.out rfl
        have c3 : w7.cell? ⟨XB, 3, none⟩ = some (.int .i64 x.1.n) := cell_of_blk HXB7.out rfl
        have c4 : w7.cell? ⟨XB, 4, none⟩ = some (.int .i64 1) := cell_of_blk HXB7.out rfl
        have c5 : w7.cell? ⟨XB, 5, none⟩ = some (.int .i64 n) := cell_of_blk HXB7.out rfl
        go_wp2_with fail
        refine (HC0.out _).mono ?_
        rintro e w8 ⟨rfl, hl8⟩
        have HM8 := Lib.hid (more_trans HM7.out hl8.1)
        have HXB8 := Lib.hid ((hl8.1.block (blk_lt HXB7.out)).trans HXB7.out)
        clear hl8 c0 c1 c2 c3 c4 c5 HXB6 HXB7 HM6 HM7
        have c0 : w8.cell? ⟨XB, 0, none⟩ = some (.int .u8 x.1.kind) := cell_of_blk HXB8.out rfl
        have c1 : w8.cell? ⟨XB, 1, none⟩ = some (.int .i64 x.1.a) := cell_of_blk HXB8.out rfl
        have c2 : w8.cell? ⟨XB, 2, none⟩ = some (.int .i64 x.1.b) := cell_of_blk HXB8.out rfl
        have c3 : w8.cell? ⟨XB, 3, none⟩ = some (.int .i64 x.1.n) := cell_of_blk HXB8.out rfl
        have c4 : w8.cell? ⟨XB, 4, none⟩ = some (.int .i64 1) := cell_of_blk HXB8.out rfl
        have c5 : w8.cell? ⟨XB, 5, none⟩ = some (.int .i64 n) := cell_of_blk HXB8.out rfl
        have HMW := Lib.hid (more_trans HMX.out HM8.out)
        clear HVA HC1 HC0 t1 t2 HR1 HR2 HXB HMX
        go_upto_if 50 with (fail)
        all_goals try (exfalso; have := HR2P.out; omega)
        go_cut [] (fun wx => Hid (More w8 wx))
        case first =>
          by_cases hj0 : j = 0
          · subst hj0
            go_wp2_with fail
            go_meet
            case rel => exact Lib.hid (World.grownBy.refl _ _)
          · obtain ⟨i, rfl⟩ : ∃ i, j = i + 1 := ⟨j - 1, by omega⟩
            obtain ⟨hi, hcase⟩ := HPREV.out i rfl
            obtain ⟨b', off', hab, _, hc⟩ := HRC.out i hi
            cases hab
            have HYP := Lib.hid (shares_pos HS.out (List.getElem_mem hi))
            have HYL := Lib.hid (show s[i].2.val ≤ 1000 by have := s[i].2.isLt; omega)
            have hwi : IntKind.i64.wrap (i : Int) = i := by rw [IntKind.wrap_i64]; have := hSL.out; omega
            clear hj0
            have e0 := HMW.out.cell (below_cell HBW.out (hc 0 (.int .u8 s[i].1.kind) rfl))
            have e1 := HMW.out.cell (below_cell HBW.out (hc 1 (.int .i64 s[i].1.a) rfl))
            have e2 := HMW.out.cell (below_cell HBW.out (hc 2 (.int .i64 s[i].1.b) rfl))
            have e3 := HMW.out.cell (below_cell HBW.out (hc 3 (.int .i64 s[i].1.n) rfl))
            have e4 := HMW.out.cell (below_cell HBW.out (hc 4 (.int .i64 (degR s[i].2.val).1) rfl))
            have e5 := HMW.out.cell (below_cell HBW.out (hc 5 (.int .i64 (degR s[i].2.val).2) rfl))
            rw [Nat.add_zero] at e0
            rw [degR_one HYP.out] at e4 e5
            dsimp only at e4 e5
            clear hc
            generalize hy : s[i] = y at *
            clear hy
            obtain ⟨r3, HR3⟩ : ∃ r, Hid (cmpR (degR y.2.val) (degR x.2.val) = r) := ⟨_, Lib.hid rfl⟩
            have HC3 := Lib.hid (show ∀ W, Calls Try.prog 30 #[.agg #[.int .i64 1, .int .i64 y.2.val], .agg #[.int .i64 1, .int .i64 n]] W fun e w' => e = .returned (.int .i64 r3) ∧ Lay W w' from fun W => by
              have := cmpR_any (degR y.2.val) (degR x.2.val) W (degR_ok HYL.out) (degR_ok HXL.out)
              rw [HR3.out, degR_one HXP.out, degR_one HYP.out] at this; rw [← HNN.out]; exact this)
            rw [HR3.out] at hcase
            have HCS := Lib.hid hcase
            clear hcase
            have hbi := cell_lt e0
            have hbx := cell_lt c0
            generalize hm : ((y.2.val : Nat) : Int) = m at *
            clear hm
            go_upto_region 12 with (fail)
            have HK := Lib.hid (show ∀ W, Lay w8 W → (W.cell? ⟨b, off + i * 6 + 4, none⟩ = some (.int .i64 1) ∧ W.cell? ⟨b, off + i * 6 + 5, none⟩ = some (.int .i64 m) ∧ W.cell? ⟨XB, 4, none⟩ = some (.int .i64 1) ∧ W.cell? ⟨XB, 5, none⟩ = some (.int .i64 n)) from fun W hl => ⟨hl.1.cell e4, hl.1.cell e5, hl.1.cell c4, hl.1.cell c5⟩)
            have HL := Lib.hid (Lay.drew w8)
            go_region_held3 (fun W => W.cell? ⟨b, off + i * 6 + 4, none⟩ = some (.int .i64 1) ∧ W.cell? ⟨b, off + i * 6 + 5, none⟩ = some (.int .i64 m) ∧ W.cell? ⟨XB, 4, none⟩ = some (.int .i64 1) ∧ W.cell? ⟨XB, 5, none⟩ = some (.int .i64 n)) (first | with_reducible exact HK.out _ HL.out) (first | (go_at_call 30; refine (HC3.out _).mono ?_; rintro e w9 ⟨rfl, hl9⟩; have HL := Lib.hid (HL.out.trans hl9); clear hl9))
            all_goals
              have HM9 := Lib.hid HL.out.1
              clear HL HK HC3
              go_upto_region 13 with (fail)
              have HM9d := Lib.hid (more_trans HM9.out (more_drew w9))
              rcases HCS.out with hpos | ⟨hz, hless⟩
              · have t5 : decide (r3 < 0) = false := by simp; omega
                have t6 : (r3 == 0) = false := by rw [beq_eq_false_iff_ne]; omega
                go_quiet (fail)
                go_wp2_with fail
                go_meet
                case rel => exact Lib.hid (more_trans HM9.out (grownBy_drewN w9 nq none))
              · subst hz
                have HLS := Lib.hid (show ∀ W, Calls Try.prog 32 #[.agg #[.int .u8 y.1.kind, .int .i64 y.1.a, .int .i64 y.1.b, .int .i64 y.1.n], .agg #[.int .u8 x.1.kind, .int .i64 x.1.a, .int .i64 x.1.b, .int .i64 x.1.n]] W fun e w' => e = .returned (.bool true) ∧ Lay W w' from fun W => by
                  have := lessK_any y.1 x.1 W
                  rw [decide_eq_true hless] at this; exact this)
                have HK := Lib.hid (show ∀ W, More w8 W → (W.cell? ⟨b, off + i * 6, none⟩ = some (.int .u8 y.1.kind) ∧ W.cell? ⟨b, off + i * 6 + 1, none⟩ = some (.int .i64 y.1.a) ∧ W.cell? ⟨b, off + i * 6 + 2, none⟩ = some (.int .i64 y.1.b) ∧ W.cell? ⟨b, off + i * 6 + 3, none⟩ = some (.int .i64 y.1.n) ∧ W.cell? ⟨XB, 0, none⟩ = some (.int .u8 x.1.kind) ∧ W.cell? ⟨XB, 1, none⟩ = some (.int .i64 x.1.a) ∧ W.cell? ⟨XB, 2, none⟩ = some (.int .i64 x.1.b) ∧ W.cell? ⟨XB, 3, none⟩ = some (.int .i64 x.1.n)) from fun W hl => ⟨hl.cell e0, hl.cell e1, hl.cell e2, hl.cell e3, hl.cell c0, hl.cell c1, hl.cell c2, hl.cell c3⟩)
                have HL := HM9d
                go_region_held3 (fun W => W.cell? ⟨b, off + i * 6, none⟩ = some (.int .u8 y.1.kind) ∧ W.cell? ⟨b, off + i * 6 + 1, none⟩ = some (.int .i64 y.1.a) ∧ W.cell? ⟨b, off + i * 6 + 2, none⟩ = some (.int .i64 y.1.b) ∧ W.cell? ⟨b, off + i * 6 + 3, none⟩ = some (.int .i64 y.1.n) ∧ W.cell? ⟨XB, 0, none⟩ = some (.int .u8 x.1.kind) ∧ W.cell? ⟨XB, 1, none⟩ = some (.int .i64 x.1.a) ∧ W.cell? ⟨XB, 2, none⟩ = some (.int .i64 x.1.b) ∧ W.cell? ⟨XB, 3, none⟩ = some (.int .i64 x.1.n)) (first | with_reducible exact HK.out _ HL.out) (first | (go_at_call 32; refine (HLS.out _).mono ?_; rintro e w10 ⟨rfl, hl10⟩; have HL := Lib.hid (more_trans HL.out hl10.1); clear hl10))
                all_goals
                  have HM10 := Lib.hid HL.out
                  clear HL HK
                  go_wp2_with fail
                  go_meet
                  case rel => exact HM10
        case rest =>
          clear c0 c1 c2 c3 c4 c5 HPREV HRC
          have HMC := hcut
          clear hcut
          have HXC := Lib.hid ((HMC.out.block (blk_lt HXB8.out)).trans HXB8.out)
          have HB2 := Lib.hid (HB1.out.trans ((more_trans HM8.out HMC.out).below.mono HNW1.out))
          have HO2 := Lib.hid (owns_keep HO1.out (fun z hz => (more_trans HM8.out HMC.out).block ((owns_shape HO1.out).choose_spec.choose_spec.2 z hz).2))
          have HNW2 := Lib.hid (Nat.le_trans HNW1.out (more_trans HM8.out HMC.out).size)
          clear HMC HXB8 HM8 HMW HB1 HO1 HNW1 HBW HB HO
          obtain ⟨w9, rfl⟩ : ∃ w9 : World, w9 = wc := ⟨_, rfl⟩
          have c4 : w9.cell? ⟨XB, 4, none⟩ = some (.int .i64 1) := cell_of_blk HXC.out rfl
          have c5 : w9.cell? ⟨XB, 5, none⟩ = some (.int .i64 n) := cell_of_blk HXC.out rfl
          have hm1 : j + 1 ≤ maxLen := by unfold maxLen; have := HSL.out; omega
          have hm2 : (j + 1) * 16 ≤ 140737488355328 := by have := HSL.out; omega
          have hnd := HNW2.out
          go_wp2_with (at_builtin; refine wpList_append_own _ rfl _ _ 55 rfl N 32 i0 _ 2 16 Try.underlying55 hi0 hz0 hz1 hz2 rfl (by omega) (.slice oa j ocap) j (flatC dC ((s.take j).map (·.2))) rfl (owns_keep HO2.out (fun z hz => Below.heap_alloc w9 _ _ ((owns_shape HO2.out).choose_spec.choose_spec.2 z hz).2)) ⟨w9.heap.size, 0, none⟩ 1 1 [.int .i64 1, .int .i64 n] rfl rfl (World.news_of_block (cs := #[.int .i64 1, .int .i64 n]) (t := 32) (fr := (0, 0)) (alloc_last _ _)) (by simp [Value.oneCell']) hm1 hm2 (by rw [World.size_alloc]; omega) ?_; intro v6 w6 hown6 hgrow6 _)
          have HB6 := Lib.hid ((HB2.out.alloc hnd _).grown hgrow6 (by rw [World.size_alloc]; omega) (fun z hz => ((owns_shape HO2.out).choose_spec.choose_spec.2 z hz).1))
          have HO6 := Lib.hid (show w6.ownsRow N 32 2 v6 (j + 1) (flatC dC ((s.take (j + 1)).map (·.2))) by rw [HDT.out, flatC_push, HDX.out]; exact hown6)
          clear hown6 hgrow6 c4 c5
          go_wp2_with fail
          go_roundw
          case rel => exact ⟨j + 1, by omega, by go_num, HB6, HO6⟩
          case measure => simp [intOf]; omega
      · obtain rfl : j = s.length := by omega
        rw [List.take_of_length_le (Nat.le_refl _)] at HO
        have HMR := Lib.hid (more_of HBW.out)
        have HDR := Lib.hid ((Row.of_owns HO.out).mono (S' := anyB) (fun _ _ => trivial) (fun _ _ _ _ h => h))
        clear hlt hj
        go_upto_region 17 with (fail)
        go_cut [95] (fun s95 wx => s95 = .bool false ∧ Hid (More wr wx))
        case first =>
          obtain rfl | ⟨x, r, rfl⟩ : s = [] ∨ ∃ x r, s = x :: r := by
            cases s with
            | nil => exact Or.inl rfl
            | cons x r => exact Or.inr ⟨x, r, rfl⟩
          · simp only [List.length_nil]
            go_quiet (fail)
            go_wp2_with fail
            go_meet
            case rel => exact ⟨rfl, Lib.hid (grownBy_drewN wr nq none)⟩
          · have HXP := Lib.hid (shares_pos HS.out (x := x) (by simp))
            obtain ⟨b, off, hab, _, hc⟩ := HSR.out.atC sC_len (i := 0) (by simp)
            cases hab
            have g4 := HMR.out.cell (hc 4 (.int .i64 (degR x.2.val).1) rfl)
            have g5 := HMR.out.cell (hc 5 (.int .i64 (degR x.2.val).2) rfl)
            rw [degR_one HXP.out] at g4 g5
            simp only [Nat.zero_mul, Nat.add_zero] at g4 g5
            clear hc
            have HMXC := Lib.hid (show ∀ W, More wr W → Calls Try.prog 33 #[.slice oa (x :: r).length ocap] W fun e w' => e = .returned (.agg #[.int .i64 1, .int .i64 x.2.val]) ∧ More W w' from fun W hW => by
              have := max_any ((x :: r).map (·.2)) (.slice oa (x :: r).length ocap) W (by rw [List.length_map]; have := HSL.out; omega) (fun m hm => by obtain ⟨y, hy, rfl⟩ := List.mem_map.1 hm; exact shares_pos HS.out hy) (by simp) (by rw [List.length_map]; exact HDR.out.below hW.below)
              rw [shares_max HS.out] at this
              exact this)
            generalize hm : ((x.2.val : Nat) : Int) = m at *
            have hlen : 0 < (x :: r).length := by simp
            generalize (x :: r).length = ns at *
            clear hm
            have hbg := cell_lt g4
            have HK := Lib.hid (show ∀ W, More wr W → (W.cell? ⟨b, off + 4, none⟩ = some (.int .i64 1) ∧ W.cell? ⟨b, off + 5, none⟩ = some (.int .i64 m)) from fun W hl => ⟨hl.cell g4, hl.cell g5⟩)
            have HL := Lib.hid (more_drew wr)
            go_region_held3 (fun W => W.cell? ⟨b, off + 4, none⟩ = some (.int .i64 1) ∧ W.cell? ⟨b, off + 5, none⟩ = some (.int .i64 m)) (first | with_reducible exact HK.out _ HL.out) (first | (go_at_call 33; refine (HMXC.out _ HL.out).mono ?_; rintro e w10 ⟨rfl, hl10⟩; have HL := Lib.hid (more_trans HL.out hl10); clear hl10))
            all_goals
              go_wp2_with fail
              go_meet
              case rel => exact ⟨by simp, HL⟩
        case rest =>
          obtain ⟨rfl, HMC⟩ := hcut
          have HMC2 := Lib.hid (more_trans (more_trans HM4.out HMR.out) HMC.out)
          clear HMR HMC HDR HO HB HBW HNW HN HSR HS
          obtain ⟨w5, rfl⟩ : ∃ w5 : World, w5 = wc := ⟨_, rfl⟩
          have HKR5 := Lib.hid (HKR2.out.below HMC2.out.below)
          have hkl := HKL.out
          go_wp2_with fail
          go_loopw [98] (fun i wr => ∃ j : Nat, j ≤ kk.length ∧ i = .int .i64 j ∧ Hid (More w5 wr)) (fun i _ => kk.length - (intOf i).toNat)
          case atStart => exact ⟨0, Nat.zero_le _, rfl, Lib.hid (World.grownBy.refl _ _)⟩
          case round =>
            obtain ⟨i, hj, rfl, HMr⟩ := hrel
            by_cases hlt : i < kk.length
            · obtain ⟨b, off, rfl, _, hc⟩ := HKR5.out.atC kC_len hlt
              have g0 := HMr.out.cell (hc 0 (.int .u8 kk[i].kind) rfl)
              have g1 := HMr.out.cell (hc 1 (.int .i64 kk[i].a) rfl)
              have g2 := HMr.out.cell (hc 2 (.int .i64 kk[i].b) rfl)
              have g3 := HMr.out.cell (hc 3 (.int .i64 kk[i].n) rfl)
              rw [Nat.add_zero] at g0
              clear hc
              have HKM := Lib.hid (List.getElem_mem hlt)
              generalize kk[i] = k at *
              have hbg := cell_lt g0
              have HKB := Lib.hid (alloc_last wr (.cells #[.int .u8 k.kind, .int .i64 k.a, .int .i64 k.b, .int .i64 k.n] 48))
              have HMBX := Lib.hid (more_alloc wr (.cells #[.int .u8 k.kind, .int .i64 k.a, .int .i64 k.b, .int .i64 k.n] 48))
              go_upto_region 22 with (fail)
              clear g0 g1 g2 g3 hbg
              generalize wr.alloc (.cells #[.int .u8 k.kind, .int .i64 k.a, .int .i64 k.b, .int .i64 k.n] 48) = w6 at *
              generalize wr.heap.size = KB at *
              have HMW := Lib.hid (more_trans HMC2.out (more_trans HMr.out HMBX.out))
              have HCV := Lib.hid (show CRow w6 L (.slice a2 L.length cap2) from HC2.out.more HMW.out)
              have HLE := Lib.hid (joint_each L HKM.out)
              obtain ⟨r, HR⟩ : ∃ r, Hid (cmpR (degR (jointN L kk)) (degR (jointN L [k])) = r) := ⟨_, Lib.hid rfl⟩
              have HR0 := Lib.hid (show r ≤ 0 by rw [← HR.out]; exact HLE.out)
              have HJK := Lib.hid (And.intro (jointN_le HOK.out kk) (jointN_le HOK.out [k]))
              obtain ⟨A, HA⟩ : ∃ A, Hid (rA (degR (jointN L kk)) = A) := ⟨_, Lib.hid rfl⟩
              obtain ⟨B, HBB⟩ : ∃ B, Hid (rA (degR (jointN L [k])) = B) := ⟨_, Lib.hid rfl⟩
              have HJ1 := Lib.hid (show ∀ W v, More w6 W → CRow W L v → Calls Try.prog 28 #[v, .slice (some ⟨b, off, none⟩) kk.length kcap] W fun e w' => e = .returned A ∧ More W w' from fun W v hW hc => by
                rw [← HA.out]
                exact joint28_any L kk _ _ W (by have := HLN.out; omega) (by have := HKL.out; omega) HOK.out HKO.out hc (HKR5.out.below (more_trans HMr.out (more_trans HMBX.out hW)).below))
              have HJ2 := Lib.hid (show ∀ W v u, CRow W L v → Row anyB W 4 1 u (flatC kC [k]) → Calls Try.prog 28 #[v, u] W fun e w' => e = .returned B ∧ More W w' from fun W v u hc hu => by
                rw [← HBB.out]
                exact joint28_any L [k] _ _ W (by have := HLN.out; omega) (by simp) HOK.out (fun x hx => by rw [List.mem_singleton] at hx; subst hx; exact HKO.out _ HKM.out) hc hu)
              have HCMP := Lib.hid (show ∀ W, Calls Try.prog 30 #[A, B] W fun e w' => e = .returned (.int .i64 r) ∧ Lay W w' from fun W => by
                rw [← HA.out, ← HBB.out, ← HR.out]
                exact cmpR_any _ _ W (degR_ok (by have := HJK.out.1; omega)) (degR_ok (by have := HJK.out.2; omega)))
              have HK := Lib.hid (show ∀ W, More w6 W → (W.cell? ⟨KB, 0, none⟩ = some (.int .u8 k.kind) ∧ W.cell? ⟨KB, 1, none⟩ = some (.int .i64 k.a) ∧ W.cell? ⟨KB, 2, none⟩ = some (.int .i64 k.b) ∧ W.cell? ⟨KB, 3, none⟩ = some (.int .i64 k.n)) from fun W h => ⟨h.cell (cell_of_blk HKB.out rfl), h.cell (cell_of_blk HKB.out rfl), h.cell (cell_of_blk HKB.out rfl), h.cell (cell_of_blk HKB.out rfl)⟩)
              have HL0 := Lib.hid (more_drew w6)
              refine wp_region_inv0 (fun iA il ia W => ∃ (b0 b1 b2 b3 b4 b5 b6 b7 b8 b9 b10 : Bool) (x102 x103 x104 x105 x106 x107 x108 x109 x110 x111 x112 : Value), il = #[b0, b1, b2, b3, b4, b5, b6, b7, b8, b9, b10] ∧ ia = (((((((((((iA.put (some 102) x102).put (some 103) x103).put (some 104) x104).put (some 105) x105).put (some 106) x106).put (some 107) x107).put (some 108) x108).put (some 109) x109).put (some 110) x110).put (some 111) x111).put (some 112) x112) ∧ InvB w6 L (.slice a2 L.length cap2) (.slice (some ⟨b, off, none⟩) kk.length kcap) A B k r b0 b1 b2 b3 b4 b5 b6 b7 b8 b9 b10 x102 x103 x104 x105 x106 x107 x108 x109 x110 x111 x112 W) (by kernel_rfl) (by kernel_rfl) ?size ?start ⟨?op0, ?op1, ?op2, ?op3, ?op4, ?op5, ?op6, ?op7, ?op8, ?op9, ?op10, trivial⟩ ?last
              case size =>
                intro _ _ _ h
                obtain ⟨b0, b1, b2, b3, b4, b5, b6, b7, b8, b9, b10, x102, x103, x104, x105, x106, x107, x108, x109, x110, x111, x112, rfl, rfl, _⟩ := h
                rfl
              case start =>
                exact ⟨false, false, false, false, false, false, false, false, false, false, false, _, _, _, _, _, _, _, _, _, _, _, rfl, (put_back (put_back (put_back (put_back (put_back (put_back (put_back (put_back (put_back (put_back (put_back rfl))))))))))), ⟨HL0, by simp, by simp, by simp, by simp, by simp, by simp, by simp, by simp, by simp, by simp, by simp⟩⟩
              case op0 =>
                refine InvOp.pass rfl fun il ia W h hl hd K hK0 => ?_
                obtain ⟨b0, b1, b2, b3, b4, b5, b6, b7, b8, b9, b10, x102, x103, x104, x105, x106, x107, x108, x109, x110, x111, x112, rfl, rfl, hJ⟩ := h
                have hb : b0 = false := hl
                subst hb
                clear hl
                have hK := fun (x102' x103' x104' x105' x106' x107' x108' x109' x110' x111' x112' : Value) (W' : World) h => hK0 _ W' ⟨true, b1, b2, b3, b4, b5, b6, b7, b8, b9, b10, x102', x103', x104', x105', x106', x107', x108', x109', x110', x111', x112', rfl, rfl, h⟩
                clear hK0 hd
                simp only [Act.put, List.setIfInBounds_toArray, List.set_cons_succ, List.set_cons_zero] at hK ⊢
                go_simp
                exact hK _ _ _ _ _ _ _ _ _ _ _ _ { hJ with g0 := fun _ => rfl }
              case op1 =>
                refine InvOp.pass rfl fun il ia W h hl hd K hK0 => ?_
                obtain ⟨b0, b1, b2, b3, b4, b5, b6, b7, b8, b9, b10, x102, x103, x104, x105, x106, x107, x108, x109, x110, x111, x112, rfl, rfl, hJ⟩ := h
                have hb : b1 = false := hl
                subst hb
                clear hl
                have hb : b0 = true := hd _ (.head _) rfl
                subst hb
                have hK := fun (x102' x103' x104' x105' x106' x107' x108' x109' x110' x111' x112' : Value) (W' : World) h => hK0 _ W' ⟨true, true, b2, b3, b4, b5, b6, b7, b8, b9, b10, x102', x103', x104', x105', x106', x107', x108', x109', x110', x111', x112', rfl, rfl, h⟩
                clear hK0 hd
                simp only [Act.put, List.setIfInBounds_toArray, List.set_cons_succ, List.set_cons_zero] at hK ⊢
                obtain rfl := hJ.g0 rfl
                go_simp
                go_at_call 21
                refine (causes_any L _ W HL8.out (HCV.out.more hJ.hl.out)).mono ?_
                rintro e w6 ⟨⟨v6, rfl, hc6⟩, hb6⟩
                have hm6 := more_of hb6
                go_simp
                exact hK _ _ _ _ _ _ _ _ _ _ _ _ { hJ with g1 := fun _ _ => Lib.hid hc6, hl := Lib.hid (more_trans hJ.hl.out hm6), g5 := fun hb => fun h' => Lib.hid (((hJ.g5 hb) h').out.more hm6), g7 := fun hb => fun h' => (by obtain ⟨g, e, h2⟩ := (hJ.g7 hb) h'; exact ⟨g, e, (hm6.block (blk_lt h2)).trans h2⟩) }
              case op2 =>
                refine InvOp.pass rfl fun il ia W h hl hd K hK0 => ?_
                obtain ⟨b0, b1, b2, b3, b4, b5, b6, b7, b8, b9, b10, x102, x103, x104, x105, x106, x107, x108, x109, x110, x111, x112, rfl, rfl, hJ⟩ := h
                have hb : b2 = false := hl
                subst hb
                clear hl
                have hK := fun (x102' x103' x104' x105' x106' x107' x108' x109' x110' x111' x112' : Value) (W' : World) h => hK0 _ W' ⟨b0, b1, true, b3, b4, b5, b6, b7, b8, b9, b10, x102', x103', x104', x105', x106', x107', x108', x109', x110', x111', x112', rfl, rfl, h⟩
                clear hK0 hd
                simp only [Act.put, List.setIfInBounds_toArray, List.set_cons_succ, List.set_cons_zero] at hK ⊢
                go_simp
                exact hK _ _ _ _ _ _ _ _ _ _ _ _ { hJ with g2 := fun _ => rfl }
              case op3 =>
                refine InvOp.pass rfl fun il ia W h hl hd K hK0 => ?_
                obtain ⟨b0, b1, b2, b3, b4, b5, b6, b7, b8, b9, b10, x102, x103, x104, x105, x106, x107, x108, x109, x110, x111, x112, rfl, rfl, hJ⟩ := h
                have hb : b3 = false := hl
                subst hb
                clear hl
                have hb : b1 = true := hd _ (.head _) rfl
                subst hb
                have hb : b2 = true := hd _ (.tail _ (.head _)) rfl
                subst hb
                have hK := fun (x102' x103' x104' x105' x106' x107' x108' x109' x110' x111' x112' : Value) (W' : World) h => hK0 _ W' ⟨b0, true, true, true, b4, b5, b6, b7, b8, b9, b10, x102', x103', x104', x105', x106', x107', x108', x109', x110', x111', x112', rfl, rfl, h⟩
                clear hK0 hd
                simp only [Act.put, List.setIfInBounds_toArray, List.set_cons_succ, List.set_cons_zero] at hK ⊢
                obtain rfl := hJ.g2 rfl
                have hcr := hJ.g1 rfl rfl
                go_simp
                go_at_call 28
                refine (HJ1.out W _ hJ.hl.out hcr.out).mono ?_
                rintro e w6 ⟨rfl, hm6⟩
                go_simp
                exact hK _ _ _ _ _ _ _ _ _ _ _ _ { hJ with g1 := fun _ h => absurd h (by simp), hl := Lib.hid (more_trans hJ.hl.out hm6), g5 := fun hb => fun h' => Lib.hid (((hJ.g5 hb) h').out.more hm6), g7 := fun hb => fun h' => (by obtain ⟨g, e, h2⟩ := (hJ.g7 hb) h'; exact ⟨g, e, (hm6.block (blk_lt h2)).trans h2⟩), g3 := fun _ => rfl }
              case op4 =>
                refine InvOp.pass rfl fun il ia W h hl hd K hK0 => ?_
                obtain ⟨b0, b1, b2, b3, b4, b5, b6, b7, b8, b9, b10, x102, x103, x104, x105, x106, x107, x108, x109, x110, x111, x112, rfl, rfl, hJ⟩ := h
                have hb : b4 = false := hl
                subst hb
                clear hl
                have hK := fun (x102' x103' x104' x105' x106' x107' x108' x109' x110' x111' x112' : Value) (W' : World) h => hK0 _ W' ⟨b0, b1, b2, b3, true, b5, b6, b7, b8, b9, b10, x102', x103', x104', x105', x106', x107', x108', x109', x110', x111', x112', rfl, rfl, h⟩
                clear hK0 hd
                simp only [Act.put, List.setIfInBounds_toArray, List.set_cons_succ, List.set_cons_zero] at hK ⊢
                go_simp
                exact hK _ _ _ _ _ _ _ _ _ _ _ _ { hJ with g4 := fun _ => rfl }
              case op5 =>
                refine InvOp.pass rfl fun il ia W h hl hd K hK0 => ?_
                obtain ⟨b0, b1, b2, b3, b4, b5, b6, b7, b8, b9, b10, x102, x103, x104, x105, x106, x107, x108, x109, x110, x111, x112, rfl, rfl, hJ⟩ := h
                have hb : b5 = false := hl
                subst hb
                clear hl
                have hb : b4 = true := hd _ (.head _) rfl
                subst hb
                have hb : b3 = true := hd _ (.tail _ (.head _)) rfl
                subst hb
                have hK := fun (x102' x103' x104' x105' x106' x107' x108' x109' x110' x111' x112' : Value) (W' : World) h => hK0 _ W' ⟨b0, b1, b2, true, true, true, b6, b7, b8, b9, b10, x102', x103', x104', x105', x106', x107', x108', x109', x110', x111', x112', rfl, rfl, h⟩
                clear hK0 hd
                simp only [Act.put, List.setIfInBounds_toArray, List.set_cons_succ, List.set_cons_zero] at hK ⊢
                obtain rfl := hJ.g3 rfl
                obtain rfl := hJ.g4 rfl
                go_simp
                go_at_call 21
                refine (causes_any L _ W HL8.out (HCV.out.more hJ.hl.out)).mono ?_
                rintro e w6 ⟨⟨v6, rfl, hc6⟩, hb6⟩
                have hm6 := more_of hb6
                go_simp
                exact hK _ _ _ _ _ _ _ _ _ _ _ _ { hJ with g5 := fun _ _ => Lib.hid hc6, hl := Lib.hid (more_trans hJ.hl.out hm6), g1 := fun hb => fun h' => Lib.hid (((hJ.g1 hb) h').out.more hm6), g7 := fun hb => fun h' => (by obtain ⟨g, e, h2⟩ := (hJ.g7 hb) h'; exact ⟨g, e, (hm6.block (blk_lt h2)).trans h2⟩) }
              case op6 =>
                refine InvOp.pass rfl fun il ia W h hl hd K hK0 => ?_
                obtain ⟨b0, b1, b2, b3, b4, b5, b6, b7, b8, b9, b10, x102, x103, x104, x105, x106, x107, x108, x109, x110, x111, x112, rfl, rfl, hJ⟩ := h
                have hb : b6 = false := hl
                subst hb
                clear hl
                have hK := fun (x102' x103' x104' x105' x106' x107' x108' x109' x110' x111' x112' : Value) (W' : World) h => hK0 _ W' ⟨b0, b1, b2, b3, b4, b5, true, b7, b8, b9, b10, x102', x103', x104', x105', x106', x107', x108', x109', x110', x111', x112', rfl, rfl, h⟩
                clear hK0 hd
                simp only [Act.put, List.setIfInBounds_toArray, List.set_cons_succ, List.set_cons_zero] at hK ⊢
                obtain ⟨k0, k1, k2, k3⟩ := HK.out _ hJ.hl.out
                go_simp
                exact hK _ _ _ _ _ _ _ _ _ _ _ _ { hJ with g6 := fun _ => rfl }
              case op7 =>
                refine InvOp.pass rfl fun il ia W h hl hd K hK0 => ?_
                obtain ⟨b0, b1, b2, b3, b4, b5, b6, b7, b8, b9, b10, x102, x103, x104, x105, x106, x107, x108, x109, x110, x111, x112, rfl, rfl, hJ⟩ := h
                have hb : b7 = false := hl
                subst hb
                clear hl
                have hb : b6 = true := hd _ (.head _) rfl
                subst hb
                have hK := fun (x102' x103' x104' x105' x106' x107' x108' x109' x110' x111' x112' : Value) (W' : World) h => hK0 _ W' ⟨b0, b1, b2, b3, b4, b5, true, true, b8, b9, b10, x102', x103', x104', x105', x106', x107', x108', x109', x110', x111', x112', rfl, rfl, h⟩
                clear hK0 hd
                simp only [Act.put, List.setIfInBounds_toArray, List.set_cons_succ, List.set_cons_zero] at hK ⊢
                obtain rfl := hJ.g6 rfl
                go_simp
                exact hK _ _ _ _ _ _ _ _ _ _ _ _ { hJ with g7 := fun _ _ => ⟨W.heap.size, rfl, alloc_last _ _⟩, hl := Lib.hid (more_trans hJ.hl.out (more_alloc W _)), g1 := fun hb => fun h' => Lib.hid (((hJ.g1 hb) h').out.more (more_alloc W _)), g5 := fun hb => fun h' => Lib.hid (((hJ.g5 hb) h').out.more (more_alloc W _)) }
              case op8 =>
                refine InvOp.pass rfl fun il ia W h hl hd K hK0 => ?_
                obtain ⟨b0, b1, b2, b3, b4, b5, b6, b7, b8, b9, b10, x102, x103, x104, x105, x106, x107, x108, x109, x110, x111, x112, rfl, rfl, hJ⟩ := h
                have hb : b8 = false := hl
                subst hb
                clear hl
                have hb : b5 = true := hd _ (.head _) rfl
                subst hb
                have hb : b7 = true := hd _ (.tail _ (.head _)) rfl
                subst hb
                have hK := fun (x102' x103' x104' x105' x106' x107' x108' x109' x110' x111' x112' : Value) (W' : World) h => hK0 _ W' ⟨b0, b1, b2, b3, b4, true, b6, true, true, b9, b10, x102', x103', x104', x105', x106', x107', x108', x109', x110', x111', x112', rfl, rfl, h⟩
                clear hK0 hd
                simp only [Act.put, List.setIfInBounds_toArray, List.set_cons_succ, List.set_cons_zero] at hK ⊢
                have hcr := hJ.g5 rfl rfl
                obtain ⟨g, rfl, hg⟩ := hJ.g7 rfl rfl
                go_simp
                go_at_call 28
                refine (HJ2.out W _ _ hcr.out (row_blk1 kC_len [k] hg rfl)).mono ?_
                rintro e w6 ⟨rfl, hm6⟩
                go_simp
                exact hK _ _ _ _ _ _ _ _ _ _ _ _ { hJ with g5 := fun _ h => absurd h (by simp), g7 := fun _ h => absurd h (by simp), hl := Lib.hid (more_trans hJ.hl.out hm6), g1 := fun hb => fun h' => Lib.hid (((hJ.g1 hb) h').out.more hm6), g8 := fun _ => rfl }
              case op9 =>
                refine InvOp.pass rfl fun il ia W h hl hd K hK0 => ?_
                obtain ⟨b0, b1, b2, b3, b4, b5, b6, b7, b8, b9, b10, x102, x103, x104, x105, x106, x107, x108, x109, x110, x111, x112, rfl, rfl, hJ⟩ := h
                have hb : b9 = false := hl
                subst hb
                clear hl
                have hb : b3 = true := hd _ (.head _) rfl
                subst hb
                have hb : b8 = true := hd _ (.tail _ (.head _)) rfl
                subst hb
                have hK := fun (x102' x103' x104' x105' x106' x107' x108' x109' x110' x111' x112' : Value) (W' : World) h => hK0 _ W' ⟨b0, b1, b2, true, b4, b5, b6, b7, true, true, b10, x102', x103', x104', x105', x106', x107', x108', x109', x110', x111', x112', rfl, rfl, h⟩
                clear hK0 hd
                simp only [Act.put, List.setIfInBounds_toArray, List.set_cons_succ, List.set_cons_zero] at hK ⊢
                obtain rfl := hJ.g3 rfl
                obtain rfl := hJ.g8 rfl
                go_simp
                go_at_call 30
                refine (HCMP.out W).mono ?_
                rintro e w6 ⟨rfl, hl6⟩
                have hm6 := hl6.1
                go_simp
                exact hK _ _ _ _ _ _ _ _ _ _ _ _ { hJ with hl := Lib.hid (more_trans hJ.hl.out hm6), g1 := fun hb => fun h' => Lib.hid (((hJ.g1 hb) h').out.more hm6), g5 := fun hb => fun h' => Lib.hid (((hJ.g5 hb) h').out.more hm6), g7 := fun hb => fun h' => (by obtain ⟨g, e, h2⟩ := (hJ.g7 hb) h'; exact ⟨g, e, (hm6.block (blk_lt h2)).trans h2⟩), g9 := fun _ => rfl }
              case op10 =>
                refine InvOp.pass rfl fun il ia W h hl hd K hK0 => ?_
                obtain ⟨b0, b1, b2, b3, b4, b5, b6, b7, b8, b9, b10, x102, x103, x104, x105, x106, x107, x108, x109, x110, x111, x112, rfl, rfl, hJ⟩ := h
                have hb : b10 = false := hl
                subst hb
                clear hl
                have hb : b9 = true := hd _ (.head _) rfl
                subst hb
                have hK := fun (x102' x103' x104' x105' x106' x107' x108' x109' x110' x111' x112' : Value) (W' : World) h => hK0 _ W' ⟨b0, b1, b2, b3, b4, b5, b6, b7, b8, true, true, x102', x103', x104', x105', x106', x107', x108', x109', x110', x111', x112', rfl, rfl, h⟩
                clear hK0 hd
                simp only [Act.put, List.setIfInBounds_toArray, List.set_cons_succ, List.set_cons_zero] at hK ⊢
                obtain rfl := hJ.g9 rfl
                have t1 : decide (0 < r) = false := by have := HR0.out; simp; omega
                go_simp
                exact hK _ _ _ _ _ _ _ _ _ _ _ _ { hJ with g10 := fun _ => rfl }
              case last =>
                intro il ia W h hall
                obtain ⟨b0, b1, b2, b3, b4, b5, b6, b7, b8, b9, b10, x102, x103, x104, x105, x106, x107, x108, x109, x110, x111, x112, rfl, rfl, hJ⟩ := h
                simp only [Act.put, List.setIfInBounds_toArray, List.set_cons_succ, List.set_cons_zero]
                have hb : b0 = true := hall 0 (Nat.le_of_ble_eq_true rfl)
                subst hb
                have hb : b1 = true := hall 1 (Nat.le_of_ble_eq_true rfl)
                subst hb
                have hb : b2 = true := hall 2 (Nat.le_of_ble_eq_true rfl)
                subst hb
                have hb : b3 = true := hall 3 (Nat.le_of_ble_eq_true rfl)
                subst hb
                have hb : b4 = true := hall 4 (Nat.le_of_ble_eq_true rfl)
                subst hb
                have hb : b5 = true := hall 5 (Nat.le_of_ble_eq_true rfl)
                subst hb
                have hb : b6 = true := hall 6 (Nat.le_of_ble_eq_true rfl)
                subst hb
                have hb : b7 = true := hall 7 (Nat.le_of_ble_eq_true rfl)
                subst hb
                have hb : b8 = true := hall 8 (Nat.le_of_ble_eq_true rfl)
                subst hb
                have hb : b9 = true := hall 9 (Nat.le_of_ble_eq_true rfl)
                subst hb
                have hb : b10 = true := hall 10 (Nat.le_of_ble_eq_true rfl)
                subst hb
                clear hall
                obtain rfl := hJ.g10 rfl
                go_wp2_with fail
                go_roundw
                case rel => exact ⟨i + 1, by omega, by go_num, Lib.hid (more_trans HMr.out (more_trans HMBX.out hJ.hl.out))⟩
                case measure => simp [intOf]; omega

            · obtain rfl : i = kk.length := by omega
              go_wp2_with fail
              go_ret
              exact ⟨rfl, (more_trans HM2.out (more_trans HMC2.out HMr.out)).below⟩
end Go.Proofs.Ytemeppfikpafbaa
