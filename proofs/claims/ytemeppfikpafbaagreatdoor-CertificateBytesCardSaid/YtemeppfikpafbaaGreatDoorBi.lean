/- Texts RckG, laid together. -/
import Derived.Test.YtemeppfikpafbaaGreatDoorBh
/- rootcauseref50.Check (51). -/
namespace Go.Proofs.YtemeppfikpafbaaGreatDoor
open Go.RowKit
set_option maxRecDepth 100000 in
set_option maxHeartbeats 40000000 in
theorem check51_any (arr : Array Value) (c : Cert) (kv : Value) (w : World) (hc : RefAt w arr c kv) :
    Calls Tryz.prog 23 #[.agg arr] w fun e w' => (∃ E : Int, e = .returned (.int .i64 E) ∧ Chk c E) ∧ Below w.heap.size w w' := by
  obtain ⟨q, hor, sv, Sl, uv, U, hv, H, wit, spl⟩ := c
  have HC := Lib.hid hc
  obtain ⟨hq32, h33, hk35, h35, h36, h37, h38, hkey, hund, hhol, heach, hul, hhl, hsl, _, _⟩ := hc
  dsimp only at *
  obtain ⟨ua, uc, rfl, _⟩ := hund.shape
  obtain ⟨ha, hcp, rfl, _⟩ := hhol.shape
  obtain ⟨ka, kc, rfl, _⟩ := hkey.shape
  have HKEY := Lib.hid hkey; clear hkey
  have HSL := Lib.hid hsl; clear hsl
  have HUND := Lib.hid hund; clear hund
  have HHOL := Lib.hid hhol; clear hhol
  have HEACH := Lib.hid heach; clear heach
  obtain ⟨N, HN⟩ : ∃ N, Hid (N = w.heap.size) := ⟨_, Lib.hid rfl⟩
  have HB1 := Lib.hid (alloc_last w (.cells arr 42))
  have HM1 := Lib.hid (more_alloc w (.cells arr 42))
  rw [← HN.out] at HB1 ⊢
  go_enter Tryz.func23, Tryz.ntmps23
  go_upto_region 1 with (fail)
  rw [← HN.out]
  generalize w.alloc (.cells arr 42) = w1 at *
  have HBW := Lib.hid (show Below N w w1 by rw [HN.out]; exact HM1.out.below)
  have n32 : w1.cell? ⟨N, 32, none⟩ = some (.string q) := cell_of_blk HB1.out hq32
  have n33 : w1.cell? ⟨N, 33, none⟩ = some (.int .i64 hor) := cell_of_blk HB1.out h33
  have n35 : w1.cell? ⟨N, 36, none⟩ = some (.slice ua U.length uc) := cell_of_blk HB1.out h35
  have n36 : w1.cell? ⟨N, 37, none⟩ = some (.slice ha H.length hcp) := cell_of_blk HB1.out h36
  have n37 : w1.cell? ⟨N, 38, none⟩ = some (.int .i64 wit) := cell_of_blk HB1.out h37
  have n38 : w1.cell? ⟨N, 39, none⟩ = some (.int .i64 spl) := cell_of_blk HB1.out h38
  have hbn := cell_lt n32
  obtain ⟨ql, HQL⟩ : ∃ ql : Nat, Hid (q.size = ql) := ⟨_, Lib.hid rfl⟩
  by_cases hq : 2000 < q.size
  · have hq' : (2000 : Int) < q.size := by omega
    go_wp2_with fail
    go_ret
    exact ⟨⟨3, rfl, Or.inl ⟨hq, rfl⟩⟩, HBW.out⟩
  · have hq' : decide ((2000 : Int) < q.size) = false := decide_eq_false (by omega)
    have HQ := Lib.hid hq
    by_cases r0 : hor < 0
    · have HR := Lib.hid (show R2 ⟨q, hor, sv, Sl, .slice ua U.length uc, U, .slice ha H.length hcp, H, wit, spl⟩ from Or.inl r0)
      go_wp2_with fail
      go_ret
      exact ⟨⟨2, rfl, Or.inr ⟨HQ.out, Or.inl ⟨HR.out, rfl⟩⟩⟩, HBW.out⟩
    · have d0 : decide (hor < 0) = false := decide_eq_false r0
      by_cases r1 : 200 < hor
      · have HR := Lib.hid (show R2 ⟨q, hor, sv, Sl, .slice ua U.length uc, U, .slice ha H.length hcp, H, wit, spl⟩ from Or.inr (Or.inl r1))
        go_wp2_with fail
        go_ret
        exact ⟨⟨2, rfl, Or.inr ⟨HQ.out, Or.inl ⟨HR.out, rfl⟩⟩⟩, HBW.out⟩
      · have d1 : decide (200 < hor) = false := decide_eq_false r1
        by_cases r2 : spl < 0
        · have HR := Lib.hid (show R2 ⟨q, hor, sv, Sl, .slice ua U.length uc, U, .slice ha H.length hcp, H, wit, spl⟩ from Or.inr (Or.inr (Or.inl r2)))
          go_wp2_with fail
          go_ret
          exact ⟨⟨2, rfl, Or.inr ⟨HQ.out, Or.inl ⟨HR.out, rfl⟩⟩⟩, HBW.out⟩
        · have d2 : decide (spl < 0) = false := decide_eq_false r2
          by_cases r3 : hor < spl
          · have HR := Lib.hid (show R2 ⟨q, hor, sv, Sl, .slice ua U.length uc, U, .slice ha H.length hcp, H, wit, spl⟩ from Or.inr (Or.inr (Or.inr (Or.inl r3))))
            go_wp2_with fail
            go_ret
            exact ⟨⟨2, rfl, Or.inr ⟨HQ.out, Or.inl ⟨HR.out, rfl⟩⟩⟩, HBW.out⟩
          · have d3 : decide (hor < spl) = false := decide_eq_false r3
            by_cases r4 : wit < 0
            · have HR := Lib.hid (show R2 ⟨q, hor, sv, Sl, .slice ua U.length uc, U, .slice ha H.length hcp, H, wit, spl⟩ from Or.inr (Or.inr (Or.inr (Or.inr (Or.inl r4)))))
              go_wp2_with fail
              go_ret
              exact ⟨⟨2, rfl, Or.inr ⟨HQ.out, Or.inl ⟨HR.out, rfl⟩⟩⟩, HBW.out⟩
            · have d4 : decide (wit < 0) = false := decide_eq_false r4
              by_cases r5 : 2 < wit
              · have HR := Lib.hid (show R2 ⟨q, hor, sv, Sl, .slice ua U.length uc, U, .slice ha H.length hcp, H, wit, spl⟩ from Or.inr (Or.inr (Or.inr (Or.inr (Or.inr (r5))))))
                go_wp2_with fail
                go_ret
                exact ⟨⟨2, rfl, Or.inr ⟨HQ.out, Or.inl ⟨HR.out, rfl⟩⟩⟩, HBW.out⟩
              · have d5 : decide (2 < wit) = false := decide_eq_false r5
                have HR2 := Lib.hid (show ¬ R2 ⟨q, hor, sv, Sl, .slice ua U.length uc, U, .slice ha H.length hcp, H, wit, spl⟩ from by unfold R2; dsimp only; omega)
                have HUL := Lib.hid hul
                have HHL := Lib.hid hhl
                clear r0 r1 r2 r3 r4 r5 hq
                by_cases s0 : U.length < 1
                · have HR := Lib.hid (show R1 ⟨q, hor, sv, Sl, .slice ua U.length uc, U, .slice ha H.length hcp, H, wit, spl⟩ from Or.inl s0)
                  have s0' : (U.length : Int) = 0 := by omega
                  go_wp2_with fail
                  go_ret
                  exact ⟨⟨1, rfl, Or.inr ⟨HQ.out, Or.inr ⟨HR2.out, Or.inl ⟨HR.out, rfl⟩⟩⟩⟩, HBW.out⟩
                · have e0 : ((U.length : Int) == 0) = false := beq_eq_false_iff_ne.2 (by omega)
                  by_cases s1 : 3 < U.length
                  · have HR := Lib.hid (show R1 ⟨q, hor, sv, Sl, .slice ua U.length uc, U, .slice ha H.length hcp, H, wit, spl⟩ from Or.inr (Or.inl s1))
                    have s1' : (3 : Int) < U.length := by omega
                    go_wp2_with fail
                    go_ret
                    exact ⟨⟨1, rfl, Or.inr ⟨HQ.out, Or.inr ⟨HR2.out, Or.inl ⟨HR.out, rfl⟩⟩⟩⟩, HBW.out⟩
                  · have e1 : decide ((3 : Int) < U.length) = false := decide_eq_false (by omega)
                    by_cases s2 : wit < (H.length : Int)
                    · have HR := Lib.hid (show R1 ⟨q, hor, sv, Sl, .slice ua U.length uc, U, .slice ha H.length hcp, H, wit, spl⟩ from Or.inr (Or.inr (s2)))
                      have s2' : wit < (H.length : Int) := by omega
                      go_wp2_with fail
                      go_ret
                      exact ⟨⟨1, rfl, Or.inr ⟨HQ.out, Or.inr ⟨HR2.out, Or.inl ⟨HR.out, rfl⟩⟩⟩⟩, HBW.out⟩
                    · have e2 : decide (wit < (H.length : Int)) = false := decide_eq_false (by omega)
                      have HR1 := Lib.hid (show ¬ R1 ⟨q, hor, sv, Sl, .slice ua U.length uc, U, .slice ha H.length hcp, H, wit, spl⟩ from by unfold R1; dsimp only; omega)
                      clear s0 s1 s2
                      have hln : U.length ≤ 16 := hul
                      go_wp2_with fail
                      clear n32 n33 n35 n36 n37 n38 hbn hq' d0 d1 d2 d3 d4 d5 e0 e1 e2
                      have HU0 := Lib.hid (show 1 ≤ U.length by have h1 := HR1.out; unfold R1 at h1; dsimp only at h1; omega)
                      go_loopw [3] (fun i wr => ∃ j : Nat, i = .int .i64 ((j + 1 : Nat) : Int) ∧ Hid (j + 1 ≤ U.length) ∧ Hid (More w1 wr) ∧ Hid (∀ i (h : i + 1 < U.length), i < j → ltK U[i] U[i + 1])) (fun i _ => U.length - (intOf i).toNat)
                      case atStart => exact ⟨0, rfl, HU0, Lib.hid (World.grownBy.refl _ _), Lib.hid (fun i _ h => by omega)⟩
                      case round =>
                        obtain ⟨j, rfl, HJ, HM, HAS⟩ := hrel
                        obtain ⟨wo, rfl⟩ : ∃ wo : World, wo = wr := ⟨_, rfl⟩
                        have HMW := Lib.hid (more_trans HM1.out HM.out)
                        have HBO := Lib.hid (show Below N w wo by rw [HN.out]; exact HMW.out.below)
                        have HNB := Lib.hid ((HM.out.block (blk_lt HB1.out)).trans HB1.out)
                        have n35 : wo.cell? ⟨N, 36, none⟩ = some (.slice ua U.length uc) := cell_of_blk HNB.out h35
                        have hbn := cell_lt n35
                        by_cases hlt : j + 1 < U.length
                        · have hjl : j < U.length := by omega
                          obtain ⟨b, off, rfl, _, hc⟩ := HUND.out.atC kC_len (i := j) hjl
                          have e0 := HMW.out.cell (hc 0 (.int .u8 U[j].kind) rfl)
                          have e1 := HMW.out.cell (hc 1 (.int .i64 U[j].a) rfl)
                          have e2 := HMW.out.cell (hc 2 (.int .i64 U[j].b) rfl)
                          have e3 := HMW.out.cell (hc 3 (.int .i64 U[j].n) rfl)
                          rw [Nat.add_zero] at e0
                          clear hc
                          obtain ⟨b', off', hab, _, hc⟩ := HUND.out.atC kC_len (i := j + 1) hlt
                          cases hab
                          have g0 := HMW.out.cell (hc 0 (.int .u8 U[j + 1].kind) rfl)
                          have g1 := HMW.out.cell (hc 1 (.int .i64 U[j + 1].a) rfl)
                          have g2 := HMW.out.cell (hc 2 (.int .i64 U[j + 1].b) rfl)
                          have g3 := HMW.out.cell (hc 3 (.int .i64 U[j + 1].n) rfl)
                          rw [Nat.add_zero] at g0
                          clear hc
                          obtain ⟨z, HZ⟩ : ∃ z, Hid ((!decide (ltK U[j] U[j + 1])) = z) := ⟨_, Lib.hid rfl⟩
                          have HZ0 := Lib.hid (show z = true → ¬ UA ⟨q, hor, sv, Sl, .slice (some ⟨b, off, none⟩) U.length uc, U, .slice ha H.length hcp, H, wit, spl⟩ from fun h hk => by
                            have h1 := hk j hlt
                            rw [← HZ.out, decide_eq_true h1] at h
                            cases h)
                          have HZ1 := Lib.hid (show z = false → ∀ i (h : i + 1 < U.length), i < j + 1 → ltK U[i] U[i + 1] from fun h i hi hij => by
                            rcases Nat.lt_or_eq_of_le (Nat.lt_succ_iff.1 hij) with h1 | h1
                            · exact HAS.out i hi h1
                            · subst h1
                              rw [← HZ.out, Bool.not_eq_false', decide_eq_true_iff] at h
                              exact h)
                          have HC32 := Lib.hid (fun W => lessK_ref U[j] U[j + 1] W)
                          unfold ltKb at HC32
                          obtain ⟨y, HY⟩ : ∃ y, Hid (decide (ltK U[j] U[j + 1]) = y) := ⟨_, Lib.hid rfl⟩
                          rw [HY.out] at HC32 HZ
                          generalize U[j] = k at *
                          generalize U[j + 1] = x at *
                          have HLT := Lib.hid hlt
                          have hwj : IntKind.i64.wrap (j : Int) = j := by rw [IntKind.wrap_i64]; omega
                          have hbe := cell_lt e0
                          have hbg := cell_lt g0
                          have hjl' : (j : Int) < U.length := by omega
                          have hjl2 : (j : Int) + 1 < U.length := by omega
                          have hjl3 : ((j + 1 : Nat) : Int) < U.length := by omega
                          have hto : ((j : Int) + 1).toNat = j + 1 := by omega
                          have hnn : (0 : Int) ≤ (j : Int) + 1 := by omega
                          have hwj1 : IntKind.i64.wrap ((j : Int) + 1) = (j : Int) + 1 := by rw [IntKind.wrap_i64]; omega
                          have HK := Lib.hid (show ∀ W, More wo W → (W.cell? ⟨N, 36, none⟩ = some (.slice (some ⟨b, off, none⟩) U.length uc) ∧ W.cell? ⟨b, off + j * 4, none⟩ = some (.int .u8 k.kind) ∧ W.cell? ⟨b, off + j * 4 + 1, none⟩ = some (.int .i64 k.a) ∧ W.cell? ⟨b, off + j * 4 + 2, none⟩ = some (.int .i64 k.b) ∧ W.cell? ⟨b, off + j * 4 + 3, none⟩ = some (.int .i64 k.n) ∧ W.cell? ⟨b, off + (j + 1) * 4, none⟩ = some (.int .u8 x.kind) ∧ W.cell? ⟨b, off + (j + 1) * 4 + 1, none⟩ = some (.int .i64 x.a) ∧ W.cell? ⟨b, off + (j + 1) * 4 + 2, none⟩ = some (.int .i64 x.b) ∧ W.cell? ⟨b, off + (j + 1) * 4 + 3, none⟩ = some (.int .i64 x.n)) from fun W h => ⟨h.cell n35, h.cell e0, h.cell e1, h.cell e2, h.cell e3, h.cell g0, h.cell g1, h.cell g2, h.cell g3⟩)
                          have HL := Lib.hid (more_drew wo)
                          go_upto_region 10 with (fail)
                          go_cut [82] (fun s wx => s = .bool z ∧ Hid (More wo wx))
                          case first =>
                            go_region_held3 (fun W => W.cell? ⟨N, 36, none⟩ = some (.slice (some ⟨b, off, none⟩) U.length uc) ∧ W.cell? ⟨b, off + j * 4, none⟩ = some (.int .u8 k.kind) ∧ W.cell? ⟨b, off + j * 4 + 1, none⟩ = some (.int .i64 k.a) ∧ W.cell? ⟨b, off + j * 4 + 2, none⟩ = some (.int .i64 k.b) ∧ W.cell? ⟨b, off + j * 4 + 3, none⟩ = some (.int .i64 k.n) ∧ W.cell? ⟨b, off + (j + 1) * 4, none⟩ = some (.int .u8 x.kind) ∧ W.cell? ⟨b, off + (j + 1) * 4 + 1, none⟩ = some (.int .i64 x.a) ∧ W.cell? ⟨b, off + (j + 1) * 4 + 2, none⟩ = some (.int .i64 x.b) ∧ W.cell? ⟨b, off + (j + 1) * 4 + 3, none⟩ = some (.int .i64 x.n)) (first | with_reducible exact HK.out _ HL.out) (first | (go_at_call 56; refine (HC32.out _).mono ?_; rintro e w9 ⟨rfl, hl9⟩; have HL := Lib.hid (more_trans HL.out hl9.1); clear hl9))
                            all_goals
                              go_wp2_with fail
                              go_meet
                              case rel => exact ⟨by rw [← HZ.out], HL⟩
                          case rest =>
                            obtain ⟨rfl, HMC⟩ := hcut
                            obtain ⟨w6, rfl⟩ : ∃ w6 : World, w6 = wc := ⟨_, rfl⟩
                            have HM6 := Lib.hid (more_trans HM.out HMC.out)
                            have HB6 := Lib.hid (show Below N w w6 by rw [HN.out]; exact (more_trans HM1.out HM6.out).below)
                            clear HK HL HC32 e0 e1 e2 e3 g0 g1 g2 g3 hbe hbg n35 hbn
                            cases z with
                            | true =>
                              go_wp2_with fail
                              go_ret
                              have HUB := Lib.hid (show ¬ UA ⟨q, hor, sv, Sl, .slice (some ⟨b, off, none⟩) U.length uc, U, .slice ha H.length hcp, H, wit, spl⟩ by first | exact HZ0.out rfl | exact HZ0.out trivial)
                              exact ⟨⟨1, rfl, Or.inr ⟨HQ.out, Or.inr ⟨HR2.out, Or.inr ⟨HR1.out, Or.inl ⟨fun h => HUB.out h.1, rfl⟩⟩⟩⟩⟩, HB6.out⟩
                            | false =>
                              have hlt9 := HLT.out
                              go_wp2_with fail
                              go_roundw
                              case rel => exact ⟨j + 1, by go_num, Lib.hid (by have := HLT.out; omega), HM6, Lib.hid (HZ1.out (by first | rfl | trivial))⟩
                              case measure => have := HLT.out; simp [intOf]; omega
                        · have HUA := Lib.hid (show UA ⟨q, hor, sv, Sl, .slice ua U.length uc, U, .slice ha H.length hcp, H, wit, spl⟩ from fun i hi => HAS.out i hi (by have := HJ.out; dsimp only at hi; omega))
                          have hge : U.length ≤ j + 1 := by omega
                          have n36 : wo.cell? ⟨N, 37, none⟩ = some (.slice ha H.length hcp) := cell_of_blk HNB.out h36
                          have hhl9 := HHL.out
                          go_wp2_with fail
                          clear n35 n36 hbn hge hlt
                          go_loopw [86] (fun i wr => ∃ j : Nat, j ≤ H.length ∧ i = .int .i64 j ∧ Hid (More w1 wr) ∧ Hid (∀ p ∈ H.take j, HoldRef hor p.2) ∧ Hid (∀ i (h : i + 1 < H.length), i + 1 < j → ltM H[i].2.m H[i + 1].2.m)) (fun i _ => H.length - (intOf i).toNat)
                          case atStart => exact ⟨0, Nat.zero_le _, rfl, HM, Lib.hid (fun p h => by simp at h), Lib.hid (fun i _ h => by omega)⟩
                          case round =>
                            obtain ⟨n, hn, rfl, HMn, HRF, HAM⟩ := hrel
                            obtain ⟨wp, rfl⟩ : ∃ wp : World, wp = wr := ⟨_, rfl⟩
                            have HMW := Lib.hid (more_trans HM1.out HMn.out)
                            have HBp := Lib.hid (show Below N w wp by rw [HN.out]; exact HMW.out.below)
                            have hhl9 := HHL.out
                            by_cases hlt : n < H.length
                            · obtain ⟨b, off, rfl, _, hc⟩ := HHOL.out.atC hC_len hlt
                              have g0 := HMW.out.cell (hc 0 (.int .i64 H[n].2.m.f) rfl)
                              have g1 := HMW.out.cell (hc 1 (.int .i64 H[n].2.m.t) rfl)
                              have g2 := HMW.out.cell (hc 2 (.int .i64 H[n].2.m.n) rfl)
                              have g3 := HMW.out.cell (hc 3 H[n].1 rfl)
                              rw [Nat.add_zero] at g0
                              clear hc
                              have HHX := Lib.hid ((HEACH.out _ (List.getElem_mem hlt)).more HMW.out)
                              obtain ⟨xa, xc, hxv, _⟩ := HHX.out.row.shape
                              rw [hxv] at g3
                              have HGX := Lib.hid (show hA H[n] = .agg #[.int .i64 H[n].2.m.f, .int .i64 H[n].2.m.t, .int .i64 H[n].2.m.n, .slice xa H[n].2.al.length xc] by unfold hA; rw [hxv])
                              clear hxv
                              have HT := Lib.hid (show H.take (n + 1) = H.take n ++ [H[n]] from List.take_succ_eq_append_getElem hlt)
                              have HME := Lib.hid (List.getElem_mem hlt)
                              obtain ⟨E, HE⟩ : ∃ E : Bool, Hid (E = true ↔ HoldRef hor H[n].2) := by
                                by_cases h : HoldRef hor H[n].2
                                · exact ⟨true, Lib.hid ⟨fun _ => h, fun _ => rfl⟩⟩
                                · exact ⟨false, Lib.hid ⟨fun e => (by cases e), fun k => absurd k h⟩⟩
                              obtain ⟨z, HZ⟩ : ∃ z : Bool, Hid (z = if h : 0 < n then !decide (ltM (H[n - 1]'(by omega)).2.m H[n].2.m) else false) := ⟨_, Lib.hid rfl⟩
                              have HZ0 := Lib.hid (show z = true → ¬ HoldsOk hor H from fun h hk => by
                                rw [HZ.out] at h
                                by_cases h0 : 0 < n
                                · rw [dif_pos h0] at h
                                  have h1 := hk.asc (n - 1) (by omega)
                                  have h2 : n - 1 + 1 = n := by omega
                                  simp only [h2] at h1
                                  rw [decide_eq_true h1] at h
                                  cases h
                                · rw [dif_neg h0] at h; cases h)
                              have HE0 := Lib.hid (show E = false → ¬ HoldsOk hor H from fun h hk => by
                                have h1 : E = true := HE.out.2 ⟨hk.ok _ HME.out, hk.tk _ HME.out⟩
                                rw [h] at h1; cases h1)
                              have HZ1 := Lib.hid (show z = false → ∀ i (h : i + 1 < H.length), i + 1 < n + 1 → ltM H[i].2.m H[i + 1].2.m from fun h i hi hij => by
                                rcases Nat.lt_or_eq_of_le (Nat.lt_succ_iff.1 hij) with h1 | h1
                                · exact HAM.out i hi h1
                                · rw [HZ.out, dif_pos (by omega)] at h
                                  rw [Bool.not_eq_false', decide_eq_true_iff] at h
                                  have h2 : n - 1 = i := by omega
                                  simp only [h2] at h
                                  simp only [h1]
                                  exact h)
                              have HPV := Lib.hid (show ∀ i0, n = i0 + 1 → ∃ (p : HV), (z = !decide (ltM p.2.m H[n].2.m)) ∧ wp.cell? ⟨b, off + i0 * 4, none⟩ = some (.int .i64 p.2.m.f) ∧ wp.cell? ⟨b, off + i0 * 4 + 1, none⟩ = some (.int .i64 p.2.m.t) ∧ wp.cell? ⟨b, off + i0 * 4 + 2, none⟩ = some (.int .i64 p.2.m.n) from fun i0 hi0 => by
                                have hi1 : i0 < H.length := by omega
                                obtain ⟨b', off', hab, _, hc⟩ := HHOL.out.atC hC_len hi1
                                cases hab
                                refine ⟨H[i0], ?_, ?_, HMW.out.cell (hc 1 _ rfl), HMW.out.cell (hc 2 _ rfl)⟩
                                · rw [HZ.out, dif_pos (by omega)]
                                  have h2 : n - 1 = i0 := by omega
                                  simp only [h2]
                                · have h3 := HMW.out.cell (hc 0 (.int .i64 H[i0].2.m.f) rfl)
                                  rw [Nat.add_zero] at h3
                                  exact h3)
                              have HZ2 := Lib.hid (show n = 0 → z = false from fun h => by rw [HZ.out, dif_neg (by omega)])
                              clear HZ
                              have HLT := Lib.hid hlt
                              generalize H[n] = x at *
                              have hbg := cell_lt g0
                              have HXB := Lib.hid (alloc_last wp (.cells #[.int .i64 x.2.m.f, .int .i64 x.2.m.t, .int .i64 x.2.m.n, .slice xa x.2.al.length xc] 68))
                              have HMO := Lib.hid (more_alloc wp (.cells #[.int .i64 x.2.m.f, .int .i64 x.2.m.t, .int .i64 x.2.m.n, .slice xa x.2.al.length xc] 68))
                              go_upto_region 15 with (fail)
                              clear g0 g1 g2 g3 hbg
                              generalize wp.alloc (.cells #[.int .i64 x.2.m.f, .int .i64 x.2.m.t, .int .i64 x.2.m.n, .slice xa x.2.al.length xc] 68) = w5 at *
                              obtain ⟨XB, HXE⟩ : ∃ XB, Hid (XB = wp.heap.size) := ⟨_, Lib.hid rfl⟩
                              rw [← HXE.out] at HXB ⊢
                              have HNB5 := Lib.hid (((more_trans HMn.out HMO.out).block (blk_lt HB1.out)).trans HB1.out)
                              have HC95 := Lib.hid (show ∀ W, More w5 W → Calls Tryz.prog 57 #[.agg #[.int .i64 x.2.m.f, .int .i64 x.2.m.t, .int .i64 x.2.m.n, .slice xa x.2.al.length xc], .int .i64 hor] W fun e w' => e = .returned (.bool E) ∧ Below W.heap.size W w' from fun W hW => by
                                have h1 := hold95_any x hor E HE.out W (HHX.out.more (more_trans HMO.out hW))
                                rw [HGX.out] at h1
                                exact h1)
                              have n37 : w5.cell? ⟨N, 37, none⟩ = some (.slice (some ⟨b, off, none⟩) H.length hcp) := cell_of_blk HNB5.out h36
                              have n33 : w5.cell? ⟨N, 33, none⟩ = some (.int .i64 hor) := cell_of_blk HNB5.out h33
                              have x0 : w5.cell? ⟨XB, 0, none⟩ = some (.int .i64 x.2.m.f) := cell_of_blk HXB.out rfl
                              have x1 : w5.cell? ⟨XB, 1, none⟩ = some (.int .i64 x.2.m.t) := cell_of_blk HXB.out rfl
                              have x2 : w5.cell? ⟨XB, 2, none⟩ = some (.int .i64 x.2.m.n) := cell_of_blk HXB.out rfl
                              have x3 : w5.cell? ⟨XB, 3, none⟩ = some (.slice xa x.2.al.length xc) := cell_of_blk HXB.out rfl
                              have hbn := cell_lt n37
                              have hbx := cell_lt x0
                              have HL := Lib.hid (more_drew w5)
                              go_cut [112] (fun s wx => s = .bool (!E || z) ∧ Hid (More w5 wx))
                              case first =>
                                have HK := Lib.hid (show ∀ W, More w5 W → (W.cell? ⟨N, 37, none⟩ = some (.slice (some ⟨b, off, none⟩) H.length hcp) ∧ W.cell? ⟨N, 33, none⟩ = some (.int .i64 hor) ∧ W.cell? ⟨XB, 0, none⟩ = some (.int .i64 x.2.m.f) ∧ W.cell? ⟨XB, 1, none⟩ = some (.int .i64 x.2.m.t) ∧ W.cell? ⟨XB, 2, none⟩ = some (.int .i64 x.2.m.n) ∧ W.cell? ⟨XB, 3, none⟩ = some (.slice xa x.2.al.length xc)) from fun W h => ⟨h.cell n37, h.cell n33, h.cell x0, h.cell x1, h.cell x2, h.cell x3⟩)
                                cases E with
                                | false =>
                                  refine wp_region_held_drew (S := fun W => W.cell? ⟨N, 37, none⟩ = some (.slice (some ⟨b, off, none⟩) H.length hcp) ∧ W.cell? ⟨N, 33, none⟩ = some (.int .i64 hor) ∧ W.cell? ⟨XB, 0, none⟩ = some (.int .i64 x.2.m.f) ∧ W.cell? ⟨XB, 1, none⟩ = some (.int .i64 x.2.m.t) ∧ W.cell? ⟨XB, 2, none⟩ = some (.int .i64 x.2.m.n) ∧ W.cell? ⟨XB, 3, none⟩ = some (.slice xa x.2.al.length xc)) (by kernel_rfl) (HK.out _ HL.out) (fun hHeld => ?_)
                                  refine wpAnyH_take (i := 0) (v := ?_) (by simp only [List.getElem?_toArray, List.getElem?_cons_zero]; exact rfl) (by kernel_rfl) (by kernel_rfl) (by kernel_rfl) (by exact fun _ _ _ h => h) (Or.inl ⟨by kernel_rfl, ?_⟩) hHeld ?_
                                  rotate_left
                                  · intro w hSw
                                    (try dsimp only at hSw)
                                    first | (go_simp; done) | (go_simp; with_reducible rfl)
                                  (try simp only [Act.put, List.setIfInBounds_toArray, List.set_cons_zero, List.set_cons_succ])
                                  refine wpAnyH_take (i := 1) (v := ?_) (by simp only [List.getElem?_toArray, List.getElem?_cons_succ, List.getElem?_cons_zero]; exact rfl) (by kernel_rfl) (by kernel_rfl) (by kernel_rfl) (by exact fun _ _ _ h => h) (Or.inl ⟨by kernel_rfl, ?_⟩) hHeld ?_
                                  rotate_left
                                  · intro w hSw
                                    (try dsimp only at hSw)
                                    first | (go_simp; done) | (go_simp; with_reducible rfl)
                                  (try simp only [Act.put, List.setIfInBounds_toArray, List.set_cons_zero, List.set_cons_succ])
                                  refine wpAnyH_take (i := 2) (v := ?_) (by simp only [List.getElem?_toArray, List.getElem?_cons_succ, List.getElem?_cons_zero]; exact rfl) (by kernel_rfl) (by kernel_rfl) (by kernel_rfl) (by exact fun _ _ _ h => h) (Or.inl ⟨by kernel_rfl, ?_⟩) hHeld ?_
                                  rotate_left
                                  · intro w hSw
                                    (try dsimp only at hSw)
                                    first | (go_simp; done) | (go_simp; with_reducible rfl)
                                  (try simp only [Act.put, List.setIfInBounds_toArray, List.set_cons_zero, List.set_cons_succ])
                                  refine wpAnyH_ready (rs := [3]) (by kernel_rfl) (by simp) ?_
                                  refine AllReadyH.cons rfl (fun K hK => ?_) AllReadyH.nil
                                  rw [if_pos (by kernel_rfl)]
                                  go_simp
                                  refine (HC95.out _ HL.out).mono ?_
                                  rintro e w9 ⟨rfl, hb9⟩
                                  have HL := Lib.hid (more_trans HL.out (more_of hb9))
                                  have K9 := HK.out w9 HL.out
                                  clear hb9
                                  try go_wp2_with fail
                                  refine hK.out _ _ K9 (fun hHeld => ?_)
                                  clear hK K
                                  (try simp only [Act.put, List.setIfInBounds_toArray, List.set_cons_zero, List.set_cons_succ])
                                  refine wpAnyH_take (i := 4) (v := ?_) (by simp only [List.getElem?_toArray, List.getElem?_cons_succ, List.getElem?_cons_zero]; exact rfl) (by kernel_rfl) (by kernel_rfl) (by kernel_rfl) (by exact fun _ _ _ h => h) (Or.inl ⟨by kernel_rfl, ?_⟩) hHeld ?_
                                  rotate_left
                                  · intro w hSw
                                    (try dsimp only at hSw)
                                    first | (go_simp; done) | (go_simp; with_reducible rfl)
                                  (try simp only [Act.put, List.setIfInBounds_toArray, List.set_cons_zero, List.set_cons_succ])
                                  refine wpAnyH_take (i := 5) (v := ?_) (by simp only [List.getElem?_toArray, List.getElem?_cons_succ, List.getElem?_cons_zero]; exact rfl) (by kernel_rfl) (by kernel_rfl) (by kernel_rfl) (by exact fun _ _ _ h => h) (Or.inl ⟨by kernel_rfl, ?_⟩) hHeld ?_
                                  rotate_left
                                  · intro w hSw
                                    (try dsimp only at hSw)
                                    first | (go_simp; done) | (go_simp; with_reducible rfl)
                                  (try simp only [Act.put, List.setIfInBounds_toArray, List.set_cons_zero, List.set_cons_succ])
                                  refine wpAnyH_take (i := 6) (v := undef) (by simp only [List.getElem?_toArray, List.getElem?_cons_succ, List.getElem?_cons_zero]; exact rfl) (by kernel_rfl) (by kernel_rfl) (by kernel_rfl) (by exact fun _ _ _ h => h) (Or.inr ⟨by kernel_rfl, by rfl⟩) hHeld ?_
                                  refine wpAnyH_take (i := 7) (v := undef) (by simp only [List.getElem?_toArray, List.getElem?_cons_succ, List.getElem?_cons_zero]; exact rfl) (by kernel_rfl) (by kernel_rfl) (by kernel_rfl) (by exact fun _ _ _ h => h) (Or.inr ⟨by kernel_rfl, by rfl⟩) hHeld ?_
                                  refine wpAnyH_take (i := 8) (v := undef) (by simp only [List.getElem?_toArray, List.getElem?_cons_succ, List.getElem?_cons_zero]; exact rfl) (by kernel_rfl) (by kernel_rfl) (by kernel_rfl) (by exact fun _ _ _ h => h) (Or.inr ⟨by kernel_rfl, by rfl⟩) hHeld ?_
                                  refine wpAnyH_take (i := 9) (v := undef) (by simp only [List.getElem?_toArray, List.getElem?_cons_succ, List.getElem?_cons_zero]; exact rfl) (by kernel_rfl) (by kernel_rfl) (by kernel_rfl) (by exact fun _ _ _ h => h) (Or.inr ⟨by kernel_rfl, by rfl⟩) hHeld ?_
                                  refine wpAnyH_take (i := 10) (v := undef) (by simp only [List.getElem?_toArray, List.getElem?_cons_succ, List.getElem?_cons_zero]; exact rfl) (by kernel_rfl) (by kernel_rfl) (by kernel_rfl) (by exact fun _ _ _ h => h) (Or.inr ⟨by kernel_rfl, by rfl⟩) hHeld ?_
                                  refine wpAnyH_take (i := 11) (v := undef) (by simp only [List.getElem?_toArray, List.getElem?_cons_succ, List.getElem?_cons_zero]; exact rfl) (by kernel_rfl) (by kernel_rfl) (by kernel_rfl) (by exact fun _ _ _ h => h) (Or.inr ⟨by kernel_rfl, by rfl⟩) hHeld ?_
                                  refine wpAnyH_take (i := 12) (v := undef) (by simp only [List.getElem?_toArray, List.getElem?_cons_succ, List.getElem?_cons_zero]; exact rfl) (by kernel_rfl) (by kernel_rfl) (by kernel_rfl) (by exact fun _ _ _ h => h) (Or.inr ⟨by kernel_rfl, by rfl⟩) hHeld ?_
                                  refine wpAnyH_take (i := 13) (v := undef) (by simp only [List.getElem?_toArray, List.getElem?_cons_succ, List.getElem?_cons_zero]; exact rfl) (by kernel_rfl) (by kernel_rfl) (by kernel_rfl) (by exact fun _ _ _ h => h) (Or.inr ⟨by kernel_rfl, by rfl⟩) hHeld ?_
                                  refine wpAnyH_take (i := 14) (v := undef) (by simp only [List.getElem?_toArray, List.getElem?_cons_succ, List.getElem?_cons_zero]; exact rfl) (by kernel_rfl) (by kernel_rfl) (by kernel_rfl) (by exact fun _ _ _ h => h) (Or.inr ⟨by kernel_rfl, by rfl⟩) hHeld ?_
                                  refine wpAnyH_take (i := 15) (v := undef) (by simp only [List.getElem?_toArray, List.getElem?_cons_succ, List.getElem?_cons_zero]; exact rfl) (by kernel_rfl) (by kernel_rfl) (by kernel_rfl) (by exact fun _ _ _ h => h) (Or.inr ⟨by kernel_rfl, by rfl⟩) hHeld ?_
                                  refine wpAnyH_take (i := 16) (v := undef) (by simp only [List.getElem?_toArray, List.getElem?_cons_succ, List.getElem?_cons_zero]; exact rfl) (by kernel_rfl) (by kernel_rfl) (by kernel_rfl) (by exact fun _ _ _ h => h) (Or.inr ⟨by kernel_rfl, by rfl⟩) hHeld ?_
                                  refine wpAnyH_take (i := 17) (v := undef) (by simp only [List.getElem?_toArray, List.getElem?_cons_succ, List.getElem?_cons_zero]; exact rfl) (by kernel_rfl) (by kernel_rfl) (by kernel_rfl) (by exact fun _ _ _ h => h) (Or.inr ⟨by kernel_rfl, by rfl⟩) hHeld ?_
                                  refine wpAnyH_take (i := 18) (v := undef) (by simp only [List.getElem?_toArray, List.getElem?_cons_succ, List.getElem?_cons_zero]; exact rfl) (by kernel_rfl) (by kernel_rfl) (by kernel_rfl) (by exact fun _ _ _ h => h) (Or.inr ⟨by kernel_rfl, by rfl⟩) hHeld ?_
                                  refine wpAnyH_take (i := 19) (v := undef) (by simp only [List.getElem?_toArray, List.getElem?_cons_succ, List.getElem?_cons_zero]; exact rfl) (by kernel_rfl) (by kernel_rfl) (by kernel_rfl) (by exact fun _ _ _ h => h) (Or.inr ⟨by kernel_rfl, by rfl⟩) hHeld ?_
                                  refine wpAnyH_take (i := 20) (v := undef) (by simp only [List.getElem?_toArray, List.getElem?_cons_succ, List.getElem?_cons_zero]; exact rfl) (by kernel_rfl) (by kernel_rfl) (by kernel_rfl) (by exact fun _ _ _ h => h) (Or.inr ⟨by kernel_rfl, by rfl⟩) hHeld ?_
                                  (try simp only [Act.put, List.setIfInBounds_toArray, List.set_cons_zero, List.set_cons_succ])
                                  refine wpAnyH_take (i := 21) (v := ?_) (by simp only [List.getElem?_toArray, List.getElem?_cons_succ, List.getElem?_cons_zero]; exact rfl) (by kernel_rfl) (by kernel_rfl) (by kernel_rfl) (by exact fun _ _ _ h => h) (Or.inl ⟨by kernel_rfl, ?_⟩) hHeld ?_
                                  rotate_left
                                  · intro w hSw
                                    (try dsimp only at hSw)
                                    first | (go_simp; done) | (go_simp; with_reducible rfl)
                                  (try simp only [Act.put, List.setIfInBounds_toArray, List.set_cons_zero, List.set_cons_succ])
                                  refine wpAnyH_done (by kernel_rfl) ?_ _
                                  all_goals
                                    go_wp2_with fail
                                    go_meet
                                    case rel => exact ⟨rfl, HL⟩
                                | true =>
                                  by_cases hj0 : n = 0
                                  · subst hj0
                                    have hz := HZ2.out rfl
                                    subst hz
                                    refine wp_region_held_drew (S := fun W => W.cell? ⟨N, 37, none⟩ = some (.slice (some ⟨b, off, none⟩) H.length hcp) ∧ W.cell? ⟨N, 33, none⟩ = some (.int .i64 hor) ∧ W.cell? ⟨XB, 0, none⟩ = some (.int .i64 x.2.m.f) ∧ W.cell? ⟨XB, 1, none⟩ = some (.int .i64 x.2.m.t) ∧ W.cell? ⟨XB, 2, none⟩ = some (.int .i64 x.2.m.n) ∧ W.cell? ⟨XB, 3, none⟩ = some (.slice xa x.2.al.length xc)) (by kernel_rfl) (HK.out _ HL.out) (fun hHeld => ?_)
                                    refine wpAnyH_take (i := 0) (v := ?_) (by simp only [List.getElem?_toArray, List.getElem?_cons_zero]; exact rfl) (by kernel_rfl) (by kernel_rfl) (by kernel_rfl) (by exact fun _ _ _ h => h) (Or.inl ⟨by kernel_rfl, ?_⟩) hHeld ?_
                                    rotate_left
                                    · intro w hSw
                                      (try dsimp only at hSw)
                                      first | (go_simp; done) | (go_simp; with_reducible rfl)
                                    (try simp only [Act.put, List.setIfInBounds_toArray, List.set_cons_zero, List.set_cons_succ])
                                    refine wpAnyH_take (i := 1) (v := ?_) (by simp only [List.getElem?_toArray, List.getElem?_cons_succ, List.getElem?_cons_zero]; exact rfl) (by kernel_rfl) (by kernel_rfl) (by kernel_rfl) (by exact fun _ _ _ h => h) (Or.inl ⟨by kernel_rfl, ?_⟩) hHeld ?_
                                    rotate_left
                                    · intro w hSw
                                      (try dsimp only at hSw)
                                      first | (go_simp; done) | (go_simp; with_reducible rfl)
                                    (try simp only [Act.put, List.setIfInBounds_toArray, List.set_cons_zero, List.set_cons_succ])
                                    refine wpAnyH_take (i := 2) (v := ?_) (by simp only [List.getElem?_toArray, List.getElem?_cons_succ, List.getElem?_cons_zero]; exact rfl) (by kernel_rfl) (by kernel_rfl) (by kernel_rfl) (by exact fun _ _ _ h => h) (Or.inl ⟨by kernel_rfl, ?_⟩) hHeld ?_
                                    rotate_left
                                    · intro w hSw
                                      (try dsimp only at hSw)
                                      first | (go_simp; done) | (go_simp; with_reducible rfl)
                                    (try simp only [Act.put, List.setIfInBounds_toArray, List.set_cons_zero, List.set_cons_succ])
                                    refine wpAnyH_ready (rs := [3]) (by kernel_rfl) (by simp) ?_
                                    refine AllReadyH.cons rfl (fun K hK => ?_) AllReadyH.nil
                                    rw [if_pos (by kernel_rfl)]
                                    go_simp
                                    refine (HC95.out _ HL.out).mono ?_
                                    rintro e w9 ⟨rfl, hb9⟩
                                    have HL := Lib.hid (more_trans HL.out (more_of hb9))
                                    have K9 := HK.out w9 HL.out
                                    clear hb9
                                    try go_wp2_with fail
                                    refine hK.out _ _ K9 (fun hHeld => ?_)
                                    clear hK K
                                    (try simp only [Act.put, List.setIfInBounds_toArray, List.set_cons_zero, List.set_cons_succ])
                                    refine wpAnyH_take (i := 4) (v := ?_) (by simp only [List.getElem?_toArray, List.getElem?_cons_succ, List.getElem?_cons_zero]; exact rfl) (by kernel_rfl) (by kernel_rfl) (by kernel_rfl) (by exact fun _ _ _ h => h) (Or.inl ⟨by kernel_rfl, ?_⟩) hHeld ?_
                                    rotate_left
                                    · intro w hSw
                                      (try dsimp only at hSw)
                                      first | (go_simp; done) | (go_simp; with_reducible rfl)
                                    (try simp only [Act.put, List.setIfInBounds_toArray, List.set_cons_zero, List.set_cons_succ])
                                    refine wpAnyH_take (i := 5) (v := ?_) (by simp only [List.getElem?_toArray, List.getElem?_cons_succ, List.getElem?_cons_zero]; exact rfl) (by kernel_rfl) (by kernel_rfl) (by kernel_rfl) (by exact fun _ _ _ h => h) (Or.inl ⟨by kernel_rfl, ?_⟩) hHeld ?_
                                    rotate_left
                                    · intro w hSw
                                      (try dsimp only at hSw)
                                      first | (go_simp; done) | (go_simp; with_reducible rfl)
                                    (try simp only [Act.put, List.setIfInBounds_toArray, List.set_cons_zero, List.set_cons_succ])
                                    refine wpAnyH_take (i := 6) (v := ?_) (by simp only [List.getElem?_toArray, List.getElem?_cons_succ, List.getElem?_cons_zero]; exact rfl) (by kernel_rfl) (by kernel_rfl) (by kernel_rfl) (by exact fun _ _ _ h => h) (Or.inl ⟨by kernel_rfl, ?_⟩) hHeld ?_
                                    rotate_left
                                    · intro w hSw
                                      (try dsimp only at hSw)
                                      first | (go_simp; done) | (go_simp; with_reducible rfl)
                                    (try simp only [Act.put, List.setIfInBounds_toArray, List.set_cons_zero, List.set_cons_succ])
                                    refine wpAnyH_take (i := 7) (v := ?_) (by simp only [List.getElem?_toArray, List.getElem?_cons_succ, List.getElem?_cons_zero]; exact rfl) (by kernel_rfl) (by kernel_rfl) (by kernel_rfl) (by exact fun _ _ _ h => h) (Or.inl ⟨by kernel_rfl, ?_⟩) hHeld ?_
                                    rotate_left
                                    · intro w hSw
                                      (try dsimp only at hSw)
                                      first | (go_simp; done) | (go_simp; with_reducible rfl)
                                    (try simp only [Act.put, List.setIfInBounds_toArray, List.set_cons_zero, List.set_cons_succ])
                                    refine wpAnyH_take (i := 8) (v := ?_) (by simp only [List.getElem?_toArray, List.getElem?_cons_succ, List.getElem?_cons_zero]; exact rfl) (by kernel_rfl) (by kernel_rfl) (by kernel_rfl) (by exact fun _ _ _ h => h) (Or.inl ⟨by kernel_rfl, ?_⟩) hHeld ?_
                                    rotate_left
                                    · intro w hSw
                                      (try dsimp only at hSw)
                                      first | (go_simp; done) | (go_simp; with_reducible rfl)
                                    (try simp only [Act.put, List.setIfInBounds_toArray, List.set_cons_zero, List.set_cons_succ])
                                    refine wpAnyH_take (i := 9) (v := undef) (by simp only [List.getElem?_toArray, List.getElem?_cons_succ, List.getElem?_cons_zero]; exact rfl) (by kernel_rfl) (by kernel_rfl) (by kernel_rfl) (by exact fun _ _ _ h => h) (Or.inr ⟨by kernel_rfl, by rfl⟩) hHeld ?_
                                    refine wpAnyH_take (i := 10) (v := undef) (by simp only [List.getElem?_toArray, List.getElem?_cons_succ, List.getElem?_cons_zero]; exact rfl) (by kernel_rfl) (by kernel_rfl) (by kernel_rfl) (by exact fun _ _ _ h => h) (Or.inr ⟨by kernel_rfl, by rfl⟩) hHeld ?_
                                    refine wpAnyH_take (i := 11) (v := undef) (by simp only [List.getElem?_toArray, List.getElem?_cons_succ, List.getElem?_cons_zero]; exact rfl) (by kernel_rfl) (by kernel_rfl) (by kernel_rfl) (by exact fun _ _ _ h => h) (Or.inr ⟨by kernel_rfl, by rfl⟩) hHeld ?_
                                    refine wpAnyH_take (i := 12) (v := undef) (by simp only [List.getElem?_toArray, List.getElem?_cons_succ, List.getElem?_cons_zero]; exact rfl) (by kernel_rfl) (by kernel_rfl) (by kernel_rfl) (by exact fun _ _ _ h => h) (Or.inr ⟨by kernel_rfl, by rfl⟩) hHeld ?_
                                    refine wpAnyH_take (i := 13) (v := undef) (by simp only [List.getElem?_toArray, List.getElem?_cons_succ, List.getElem?_cons_zero]; exact rfl) (by kernel_rfl) (by kernel_rfl) (by kernel_rfl) (by exact fun _ _ _ h => h) (Or.inr ⟨by kernel_rfl, by rfl⟩) hHeld ?_
                                    refine wpAnyH_take (i := 14) (v := undef) (by simp only [List.getElem?_toArray, List.getElem?_cons_succ, List.getElem?_cons_zero]; exact rfl) (by kernel_rfl) (by kernel_rfl) (by kernel_rfl) (by exact fun _ _ _ h => h) (Or.inr ⟨by kernel_rfl, by rfl⟩) hHeld ?_
                                    refine wpAnyH_take (i := 15) (v := undef) (by simp only [List.getElem?_toArray, List.getElem?_cons_succ, List.getElem?_cons_zero]; exact rfl) (by kernel_rfl) (by kernel_rfl) (by kernel_rfl) (by exact fun _ _ _ h => h) (Or.inr ⟨by kernel_rfl, by rfl⟩) hHeld ?_
                                    refine wpAnyH_take (i := 16) (v := undef) (by simp only [List.getElem?_toArray, List.getElem?_cons_succ, List.getElem?_cons_zero]; exact rfl) (by kernel_rfl) (by kernel_rfl) (by kernel_rfl) (by exact fun _ _ _ h => h) (Or.inr ⟨by kernel_rfl, by rfl⟩) hHeld ?_
                                    refine wpAnyH_take (i := 17) (v := undef) (by simp only [List.getElem?_toArray, List.getElem?_cons_succ, List.getElem?_cons_zero]; exact rfl) (by kernel_rfl) (by kernel_rfl) (by kernel_rfl) (by exact fun _ _ _ h => h) (Or.inr ⟨by kernel_rfl, by rfl⟩) hHeld ?_
                                    refine wpAnyH_take (i := 18) (v := undef) (by simp only [List.getElem?_toArray, List.getElem?_cons_succ, List.getElem?_cons_zero]; exact rfl) (by kernel_rfl) (by kernel_rfl) (by kernel_rfl) (by exact fun _ _ _ h => h) (Or.inr ⟨by kernel_rfl, by rfl⟩) hHeld ?_
                                    refine wpAnyH_take (i := 19) (v := undef) (by simp only [List.getElem?_toArray, List.getElem?_cons_succ, List.getElem?_cons_zero]; exact rfl) (by kernel_rfl) (by kernel_rfl) (by kernel_rfl) (by exact fun _ _ _ h => h) (Or.inr ⟨by kernel_rfl, by rfl⟩) hHeld ?_
                                    (try simp only [Act.put, List.setIfInBounds_toArray, List.set_cons_zero, List.set_cons_succ])
                                    refine wpAnyH_take (i := 20) (v := ?_) (by simp only [List.getElem?_toArray, List.getElem?_cons_succ, List.getElem?_cons_zero]; exact rfl) (by kernel_rfl) (by kernel_rfl) (by kernel_rfl) (by exact fun _ _ _ h => h) (Or.inl ⟨by kernel_rfl, ?_⟩) hHeld ?_
                                    rotate_left
                                    · intro w hSw
                                      (try dsimp only at hSw)
                                      first | (go_simp; done) | (go_simp; with_reducible rfl)
                                    (try simp only [Act.put, List.setIfInBounds_toArray, List.set_cons_zero, List.set_cons_succ])
                                    refine wpAnyH_take (i := 21) (v := ?_) (by simp only [List.getElem?_toArray, List.getElem?_cons_succ, List.getElem?_cons_zero]; exact rfl) (by kernel_rfl) (by kernel_rfl) (by kernel_rfl) (by exact fun _ _ _ h => h) (Or.inl ⟨by kernel_rfl, ?_⟩) hHeld ?_
                                    rotate_left
                                    · intro w hSw
                                      (try dsimp only at hSw)
                                      first | (go_simp; done) | (go_simp; with_reducible rfl)
                                    (try simp only [Act.put, List.setIfInBounds_toArray, List.set_cons_zero, List.set_cons_succ])
                                    refine wpAnyH_done (by kernel_rfl) ?_ _
                                    all_goals
                                      go_wp2_with fail
                                      go_meet
                                      case rel => exact ⟨rfl, HL⟩
                                  · obtain ⟨i0, rfl⟩ : ∃ i0, n = i0 + 1 := ⟨n - 1, by omega⟩
                                    obtain ⟨p, hz, e0, e1, e2⟩ := HPV.out i0 rfl
                                    have e0 := HMO.out.cell e0
                                    have e1 := HMO.out.cell e1
                                    have e2 := HMO.out.cell e2
                                    have HC96 := Lib.hid (fun W => less96_ref p.2.m x.2.m W)
                                    unfold ltMb at HC96
                                    obtain ⟨q, HQ6⟩ : ∃ q, Hid (decide (ltM p.2.m x.2.m) = q) := ⟨_, Lib.hid rfl⟩
                                    rw [HQ6.out] at HC96 hz
                                    have HZQ := Lib.hid hz
                                    clear hz hj0
                                    have hwi : IntKind.i64.wrap (i0 : Int) = i0 := by rw [IntKind.wrap_i64]; omega
                                    have hil : (i0 : Int) < H.length := by omega
                                    have hbe := cell_lt e0
                                    have HK := Lib.hid (show ∀ W, More w5 W → (W.cell? ⟨N, 37, none⟩ = some (.slice (some ⟨b, off, none⟩) H.length hcp) ∧ W.cell? ⟨N, 33, none⟩ = some (.int .i64 hor) ∧ W.cell? ⟨XB, 0, none⟩ = some (.int .i64 x.2.m.f) ∧ W.cell? ⟨XB, 1, none⟩ = some (.int .i64 x.2.m.t) ∧ W.cell? ⟨XB, 2, none⟩ = some (.int .i64 x.2.m.n) ∧ W.cell? ⟨XB, 3, none⟩ = some (.slice xa x.2.al.length xc) ∧ W.cell? ⟨b, off + i0 * 4, none⟩ = some (.int .i64 p.2.m.f) ∧ W.cell? ⟨b, off + i0 * 4 + 1, none⟩ = some (.int .i64 p.2.m.t) ∧ W.cell? ⟨b, off + i0 * 4 + 2, none⟩ = some (.int .i64 p.2.m.n)) from fun W h => ⟨h.cell n37, h.cell n33, h.cell x0, h.cell x1, h.cell x2, h.cell x3, h.cell e0, h.cell e1, h.cell e2⟩)
                                    go_region_held3 (fun W => W.cell? ⟨N, 37, none⟩ = some (.slice (some ⟨b, off, none⟩) H.length hcp) ∧ W.cell? ⟨N, 33, none⟩ = some (.int .i64 hor) ∧ W.cell? ⟨XB, 0, none⟩ = some (.int .i64 x.2.m.f) ∧ W.cell? ⟨XB, 1, none⟩ = some (.int .i64 x.2.m.t) ∧ W.cell? ⟨XB, 2, none⟩ = some (.int .i64 x.2.m.n) ∧ W.cell? ⟨XB, 3, none⟩ = some (.slice xa x.2.al.length xc) ∧ W.cell? ⟨b, off + i0 * 4, none⟩ = some (.int .i64 p.2.m.f) ∧ W.cell? ⟨b, off + i0 * 4 + 1, none⟩ = some (.int .i64 p.2.m.t) ∧ W.cell? ⟨b, off + i0 * 4 + 2, none⟩ = some (.int .i64 p.2.m.n)) (first | with_reducible exact HK.out _ HL.out) (first | (go_at_call 57; refine (HC95.out _ HL.out).mono ?_; rintro e w9 ⟨rfl, hb9⟩; have HL := Lib.hid (more_trans HL.out (more_of hb9)); clear hb9) | (go_at_call 58; refine (HC96.out _).mono ?_; rintro e w9 ⟨rfl, hl9⟩; have HL := Lib.hid (more_trans HL.out hl9.1); clear hl9))
                                    all_goals
                                      go_wp2_with fail
                                      go_meet
                                      case rel => exact ⟨by rw [HZQ.out]; rfl, HL⟩
                              case rest =>
                                obtain ⟨rfl, HMC⟩ := hcut
                                obtain ⟨w6, rfl⟩ : ∃ w6 : World, w6 = wc := ⟨_, rfl⟩
                                have HM6 := Lib.hid (more_trans HMn.out (more_trans HMO.out HMC.out))
                                have HB6 := Lib.hid (show Below N w w6 by rw [HN.out]; exact (more_trans HM1.out HM6.out).below)
                                clear HL HC95 n37 n33 x0 x1 x2 x3 hbn hbx
                                by_cases hbad : (!E || z) = true
                                · rw [hbad]
                                  have HNH := Lib.hid (show ¬ HoldsOk hor H from by
                                    cases E with
                                    | false => exact HE0.out rfl
                                    | true => exact HZ0.out (by simpa using hbad))
                                  go_wp2_with fail
                                  go_ret
                                  exact ⟨⟨1, rfl, Or.inr ⟨HQ.out, Or.inr ⟨HR2.out, Or.inr ⟨HR1.out, Or.inl ⟨fun h => HNH.out h.2, rfl⟩⟩⟩⟩⟩, HB6.out⟩
                                · have hbf : (!E || z) = false := by simpa using hbad
                                  rw [hbf]
                                  have HEZ := Lib.hid (show E = true ∧ z = false from by simpa using hbf)
                                  clear hbad hbf
                                  have hlt9 := HLT.out
                                  go_wp2_with fail
                                  go_roundw
                                  case rel => exact ⟨n + 1, by omega, by go_num, HM6, Lib.hid (fun p hp => by
                                      rw [HT.out] at hp
                                      rcases List.mem_append.1 hp with h | h
                                      · exact HRF.out p h
                                      · rw [List.mem_singleton] at h; subst h; exact HE.out.1 HEZ.out.1), Lib.hid (HZ1.out HEZ.out.2)⟩
                                  case measure => have := HLT.out; simp [intOf]; omega
                            · obtain rfl : n = H.length := by omega
                              rw [List.take_of_length_le (Nat.le_refl _)] at HRF
                              have HHO := Lib.hid (show HoldsOk hor H from ⟨fun i h => HAM.out i h (by omega), fun p hp a ha => (HRF.out p hp).2 a ha, fun p hp => (HRF.out p hp).1⟩)
                              have HNBp := Lib.hid ((HMn.out.block (blk_lt HB1.out)).trans HB1.out)
                              have n36 : wp.cell? ⟨N, 36, none⟩ = some (.slice ua U.length uc) := cell_of_blk HNBp.out h35
                              have hbn := cell_lt n36
                              have hul9 := HUL.out
                              obtain ⟨kl, HKL⟩ : ∃ kl, Hid ((keysG Sl).length = kl) := ⟨_, Lib.hid rfl⟩
                              have hkl := HSL.out
                              have HKB := Lib.hid (show kl ≤ 96 by rw [← HKL.out]; unfold keysG; rw [List.length_map]; exact hkl)
                              clear hkl
                              rw [HKL.out] at hk35
                              go_wp2_with fail
                              clear n36 hbn hlt hhl9
                              go_loopw [117] (fun i wr => ∃ j : Nat, j ≤ U.length ∧ i = .int .i64 j ∧ Hid (More w1 wr) ∧ Hid (∀ k ∈ U.take j, k ∈ keysG Sl)) (fun i _ => U.length - (intOf i).toNat)
                              case atStart => exact ⟨0, Nat.zero_le _, rfl, HMn, Lib.hid (fun k h => by simp at h)⟩
                              case round =>
                                obtain ⟨j, hj, rfl, HMJ, HIN⟩ := hrel
                                obtain ⟨wj, rfl⟩ : ∃ wj : World, wj = wr := ⟨_, rfl⟩
                                have HMW := Lib.hid (more_trans HM1.out HMJ.out)
                                have hul9 := HUL.out
                                by_cases hlt : j < U.length
                                · obtain ⟨b, off, rfl, _, hc⟩ := HUND.out.atC kC_len hlt
                                  have g0 := HMW.out.cell (hc 0 (.int .u8 U[j].kind) rfl)
                                  have g1 := HMW.out.cell (hc 1 (.int .i64 U[j].a) rfl)
                                  have g2 := HMW.out.cell (hc 2 (.int .i64 U[j].b) rfl)
                                  have g3 := HMW.out.cell (hc 3 (.int .i64 U[j].n) rfl)
                                  rw [Nat.add_zero] at g0
                                  clear hc
                                  have HT := Lib.hid (show U.take (j + 1) = U.take j ++ [U[j]] from List.take_succ_eq_append_getElem hlt)
                                  have HNS := Lib.hid (show U[j] ∉ keysG Sl → ¬ HS ⟨q, hor, sv, Sl, .slice (some ⟨b, off, none⟩) U.length uc, U, .slice ha H.length hcp, H, wit, spl⟩ from fun h k => h ((hasG_keys Sl U[j]).1 (k _ (List.getElem_mem hlt))))
                                  have HLT := Lib.hid hlt
                                  generalize U[j] = x at *
                                  have hbg := cell_lt g0
                                  have HXB := Lib.hid (alloc_last wj (.cells #[.int .u8 x.kind, .int .i64 x.a, .int .i64 x.b, .int .i64 x.n] 53))
                                  have HMO := Lib.hid (more_alloc wj (.cells #[.int .u8 x.kind, .int .i64 x.a, .int .i64 x.b, .int .i64 x.n] 53))
                                  go_upto_region 21 with (fail)
                                  clear g0 g1 g2 g3 hbg
                                  generalize wj.alloc (.cells #[.int .u8 x.kind, .int .i64 x.a, .int .i64 x.b, .int .i64 x.n] 53) = w5 at *
                                  obtain ⟨XB, HXE⟩ : ∃ XB, Hid (XB = wj.heap.size) := ⟨_, Lib.hid rfl⟩
                                  rw [← HXE.out] at HXB ⊢
                                  have HM5 := Lib.hid (more_trans HMJ.out HMO.out)
                                  have HNB5 := Lib.hid ((HM5.out.block (blk_lt HB1.out)).trans HB1.out)
                                  have n35 : w5.cell? ⟨N, 35, none⟩ = some (.slice ka kl kc) := cell_of_blk HNB5.out hk35
                                  have hbn := cell_lt n35
                                  have hkb := HKB.out
                                  go_wp2_with fail
                                  clear n35 hbn
                                  go_loopw [8, 124] (fun s i wr => ∃ (m : Nat) (is : Bool), m ≤ kl ∧ i = .int .i64 m ∧ s = .bool is ∧ Hid (is = true ↔ x ∈ (keysG Sl).take m) ∧ Hid (More w5 wr)) (fun _ i _ => kl - (intOf i).toNat)
                                  case atStart => exact ⟨0, false, Nat.zero_le _, rfl, rfl, Lib.hid (by simp), Lib.hid (World.grownBy.refl _ _)⟩
                                  case round =>
                                    obtain ⟨m, is, hm, rfl, rfl, HIS, HMI⟩ := hrel
                                    obtain ⟨wi, rfl⟩ : ∃ wi : World, wi = wr := ⟨_, rfl⟩
                                    have HM6 := Lib.hid (more_trans HM5.out HMI.out)
                                    have hkb := HKB.out
                                    by_cases hmt : m < kl
                                    · have hml : m < (keysG Sl).length := by rw [HKL.out]; exact hmt
                                      obtain ⟨b2, off2, rfl, _, hc⟩ := HKEY.out.atC kC_len hml
                                      have g0 := (more_trans HM1.out HM6.out).cell (hc 0 (.int .u8 (keysG Sl)[m].kind) rfl)
                                      have g1 := (more_trans HM1.out HM6.out).cell (hc 1 (.int .i64 (keysG Sl)[m].a) rfl)
                                      have g2 := (more_trans HM1.out HM6.out).cell (hc 2 (.int .i64 (keysG Sl)[m].b) rfl)
                                      have g3 := (more_trans HM1.out HM6.out).cell (hc 3 (.int .i64 (keysG Sl)[m].n) rfl)
                                      rw [Nat.add_zero] at g0
                                      clear hc
                                      have HT2 := Lib.hid (show (keysG Sl).take (m + 1) = (keysG Sl).take m ++ [(keysG Sl)[m]] from List.take_succ_eq_append_getElem hml)
                                      generalize (keysG Sl)[m] = y at *
                                      have hbg := cell_lt g0
                                      have HMT := Lib.hid hmt
                                      have HYB := Lib.hid (alloc_last wi (.cells #[.int .u8 y.kind, .int .i64 y.a, .int .i64 y.b, .int .i64 y.n] 53))
                                      have HMY := Lib.hid (more_alloc wi (.cells #[.int .u8 y.kind, .int .i64 y.a, .int .i64 y.b, .int .i64 y.n] 53))
                                      go_upto_region 25 with (fail)
                                      clear g0 g1 g2 g3 hbg
                                      generalize wi.alloc (.cells #[.int .u8 y.kind, .int .i64 y.a, .int .i64 y.b, .int .i64 y.n] 53) = w7 at *
                                      obtain ⟨YB, HYE⟩ : ∃ YB, Hid (YB = wi.heap.size) := ⟨_, Lib.hid rfl⟩
                                      rw [← HYE.out] at HYB ⊢
                                      have HX7 := Lib.hid (((more_trans HMI.out HMY.out).block (blk_lt HXB.out)).trans HXB.out)
                                      have HM7 := Lib.hid (more_trans HMI.out HMY.out)
                                      have x0 : w7.cell? ⟨XB, 0, none⟩ = some (.int .u8 x.kind) := cell_of_blk HX7.out rfl
                                      have x1 : w7.cell? ⟨XB, 1, none⟩ = some (.int .i64 x.a) := cell_of_blk HX7.out rfl
                                      have x2 : w7.cell? ⟨XB, 2, none⟩ = some (.int .i64 x.b) := cell_of_blk HX7.out rfl
                                      have x3 : w7.cell? ⟨XB, 3, none⟩ = some (.int .i64 x.n) := cell_of_blk HX7.out rfl
                                      have y0 : w7.cell? ⟨YB, 0, none⟩ = some (.int .u8 y.kind) := cell_of_blk HYB.out rfl
                                      have y1 : w7.cell? ⟨YB, 1, none⟩ = some (.int .i64 y.a) := cell_of_blk HYB.out rfl
                                      have y2 : w7.cell? ⟨YB, 2, none⟩ = some (.int .i64 y.b) := cell_of_blk HYB.out rfl
                                      have y3 : w7.cell? ⟨YB, 3, none⟩ = some (.int .i64 y.n) := cell_of_blk HYB.out rfl
                                      have hbx := cell_lt x0
                                      have hby := cell_lt y0
                                      have heq := fun W => run_eqK x y W
                                      obtain ⟨q5, HQ5⟩ : ∃ q5, Hid (decide (x = y) = q5) := ⟨_, Lib.hid rfl⟩
                                      simp only [HQ5.out] at heq
                                      have HN5 := Lib.hid (show (is || q5) = true ↔ x ∈ (keysG Sl).take (m + 1) from by
                                        rw [HT2.out, List.mem_append, List.mem_singleton, Bool.or_eq_true, HIS.out, ← HQ5.out, decide_eq_true_iff])
                                      cases is with
                                      | true =>
                                        go_wp2_with fail
                                        have hmt9 := HMT.out
                                        go_roundw
                                        case rel => exact ⟨m + 1, true, by omega, by go_num, rfl, HN5, HM7⟩
                                        case measure => have := HMT.out; simp [intOf]; omega
                                      | false =>
                                        go_wp2_with fail
                                        have hmt9 := HMT.out
                                        go_roundw
                                        case rel => exact ⟨m + 1, q5, by omega, by go_num, rfl, HN5, HM7⟩
                                        case measure => have := HMT.out; simp [intOf]; omega
                                    · obtain rfl : m = kl := by omega
                                      have HFI := Lib.hid (show is = true ↔ x ∈ keysG Sl from by rw [HIS.out, List.take_of_length_le (by rw [HKL.out]; exact Nat.le_refl _)])
                                      have HBI := Lib.hid (show Below N w wi by rw [HN.out]; exact (more_trans HM1.out HM6.out).below)
                                      clear hmt hm
                                      cases is with
                                      | false =>
                                        go_wp2_with fail
                                        go_ret
                                        have HNS2 := Lib.hid (HNS.out (fun h => by have := HFI.out.2 h; cases this))
                                        exact ⟨⟨4, rfl, Or.inr ⟨HQ.out, Or.inr ⟨HR2.out, Or.inr ⟨HR1.out, Or.inr ⟨⟨HUA.out, HHO.out⟩, Or.inl ⟨HNS2.out, rfl⟩⟩⟩⟩⟩⟩, HBI.out⟩
                                      | true =>
                                        have hlt9 := HLT.out
                                        go_wp2_with fail
                                        go_roundw
                                        case rel => exact ⟨j + 1, by omega, by go_num, HM6, Lib.hid (fun k hk => by
                                            rw [HT.out] at hk
                                            rcases List.mem_append.1 hk with h | h
                                            · exact HIN.out k h
                                            · rw [List.mem_singleton] at h; subst h; exact HFI.out.1 (by first | rfl | trivial))⟩
                                        case measure => have := HLT.out; simp [intOf]; omega
                                · obtain rfl : j = U.length := by omega
                                  rw [List.take_of_length_le (Nat.le_refl _)] at HIN
                                  have HBJ := Lib.hid (show Below N w wj by rw [HN.out]; exact HMW.out.below)
                                  have HSS := Lib.hid (show HS ⟨q, hor, sv, Sl, .slice ua U.length uc, U, .slice ha H.length hcp, H, wit, spl⟩ from fun k hk => (hasG_keys Sl k).2 (HIN.out k hk))
                                  go_wp2_with fail
                                  go_ret
                                  exact ⟨⟨0, rfl, Or.inr ⟨HQ.out, Or.inr ⟨HR2.out, Or.inr ⟨HR1.out, Or.inr ⟨⟨HUA.out, HHO.out⟩, Or.inr ⟨HSS.out, rfl⟩⟩⟩⟩⟩⟩, HBJ.out⟩
end Go.Proofs.YtemeppfikpafbaaGreatDoor

