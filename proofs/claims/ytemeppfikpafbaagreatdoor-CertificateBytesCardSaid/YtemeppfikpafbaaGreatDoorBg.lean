/- Texts CerG, PutG, laid together. -/
import Derived.Laws.Bits64
import Derived.Test.YtemeppfikpafbaaGreatDoorBb
import Derived.Test.YtemeppfikpafbaaGreatDoorBf
/- certificate.Check (50). -/
namespace Go.Proofs.YtemeppfikpafbaaGreatDoor
open Go.RowKit
/-- A certificate: its question, numbers, choices, keys and holds, with the values that lead to them. -/
structure Cert where
  q : ByteArray
  hor : Int
  sv : Value
  S : List GV
  uv : Value
  U : List K4
  hv : Value
  H : List HV
  wit : Int
  spl : Int
structure CertAt (w : World) (arr : Array Value) (c : Cert) : Prop where
  size : arr.size = 39
  q : arr[32]? = some (.string c.q)
  hor : arr[33]? = some (.int .i64 c.hor)
  sv : arr[34]? = some c.sv
  uv : arr[35]? = some c.uv
  hv : arr[36]? = some c.hv
  wit : arr[37]? = some (.int .i64 c.wit)
  spl : arr[38]? = some (.int .i64 c.spl)
  set : SetAt anyB w c.sv c.S
  und : Row anyB w 4 c.U.length c.uv (flatC kC c.U)
  hol : Row anyB w 4 c.H.length c.hv (flatC hC c.H)
  each : ∀ p ∈ c.H, HAt anyB w p
  ulen : c.U.length ≤ 16
  hlen : c.H.length ≤ 16
theorem CertAt.more {w w' : World} {arr : Array Value} {c : Cert} (h : CertAt w arr c) (hm : More w w') : CertAt w' arr c :=
  ⟨h.size, h.q, h.hor, h.sv, h.uv, h.hv, h.wit, h.spl, h.set.more hm, h.und.below hm.below, h.hol.below hm.below, fun p hp => (h.each p hp).more hm, h.ulen, h.hlen⟩
def R2 (c : Cert) : Prop := c.hor < 0 ∨ 200 < c.hor ∨ c.spl < 0 ∨ c.hor < c.spl ∨ c.wit < 0 ∨ 2 < c.wit
def R1 (c : Cert) : Prop := c.U.length < 1 ∨ 3 < c.U.length ∨ c.wit < (c.H.length : Int)
def UA (c : Cert) : Prop := ∀ i (h : i + 1 < c.U.length), ltK c.U[i] c.U[i + 1]
def HS (c : Cert) : Prop := ∀ k ∈ c.U, hasG c.S k = true
/-- The error of a certificate. -/
def Chk (c : Cert) (E : Int) : Prop := (2000 < c.q.size ∧ E = 3) ∨ (¬ 2000 < c.q.size ∧ ((R2 c ∧ E = 2) ∨ (¬ R2 c ∧ ((R1 c ∧ E = 1) ∨ (¬ R1 c ∧ ((¬ (UA c ∧ HoldsOk c.hor c.H) ∧ E = 1) ∨ ((UA c ∧ HoldsOk c.hor c.H) ∧ ((¬ HS c ∧ E = 4) ∨ (HS c ∧ E = 0)))))))))
theorem Chk.same {c : Cert} {E F : Int} (h : Chk c E) (k : Chk c F) : E = F := by
  unfold Chk at h k
  by_cases h1 : 2000 < c.q.size
  · simp only [h1, true_and, not_true, false_and, or_false] at h k; omega
  · by_cases h2 : R2 c
    · simp only [h1, h2, true_and, not_true, false_and, or_false, false_or, not_false_iff] at h k; omega
    · by_cases h3 : R1 c
      · simp only [h1, h2, h3, true_and, not_true, false_and, or_false, false_or, not_false_iff] at h k; omega
      · by_cases h4 : UA c ∧ HoldsOk c.hor c.H
        · by_cases h5 : HS c
          · simp only [h1, h2, h3, h4, h5, true_and, and_self, not_true, false_and, false_or, not_false_iff] at h k; omega
          · simp only [h1, h2, h3, h4, h5, true_and, and_self, not_true, false_and, or_false, false_or, not_false_iff] at h k; omega
        · simp only [h1, h2, h3, h4, true_and, false_and, or_false, false_or, not_false_iff] at h k; omega
theorem info98 : (Tryz.prog.info? 35).map (·.size) = some 39 := by kernel_rfl
theorem ld98 {arr : Array Value} (hs : arr.size = 39) {w : World} {N : Nat} (h : w.heap[N]? = some (.cells arr 35)) : (loadVar 35 ⟨N, 0, none⟩).run Tryz.prog w = .ok (.agg arr) w :=
  run_loadVar_row w N 35 35 arr (0, 0) _ h Tryz.underlying35 rfl (by rw [hs]; exact info98)
theorem wpList_load98 {ops : Array Oper} {rest : List Oper} {o : Oper} {a : Act} {w : World} {Q : Exit → Act → World → Prop} (hgd : o.guard = none) (x : Operand) (ho : o.op = .load 35 x) (g : Nat) (hx : a.eval x = .pointer (some ⟨g, 0, none⟩)) (cs : Array Value) (hg : w.heap[g]? = some (.cells cs 35)) (hs : cs.size = 39)
    (h : wpList Tryz.prog ops Q rest (a.put o.dst (.agg cs)) w) : wpList Tryz.prog ops Q (o :: rest) a w :=
  wpList_plain hgd fun _ hK => wp_load_row 35 x ho g hx 35 cs (0, 0) _ hg Tryz.underlying35 rfl (by rw [hs]; exact info98) (hK _ _ h)
set_option maxRecDepth 100000 in
set_option maxHeartbeats 8000000 in
theorem check50_any (arr : Array Value) (c : Cert) (w : World) (hc : CertAt w arr c) :
    Calls Tryz.prog 15 #[.agg arr] w fun e w' => (∃ E : Int, e = .returned (.int .i64 E) ∧ Chk c E) ∧ Below w.heap.size w w' := by
  obtain ⟨q, hor, sv, Sl, uv, U, hv, H, wit, spl⟩ := c
  have HC := Lib.hid hc
  obtain ⟨hsz, hq32, h33, h34, h35, h36, h37, h38, hset, hund, hhol, heach, hul, hhl⟩ := hc
  dsimp only at *
  obtain ⟨ua, uc, rfl, _⟩ := hund.shape
  obtain ⟨ha, hcp, rfl, _⟩ := hhol.shape
  have HSET := Lib.hid hset; clear hset
  have HUND := Lib.hid hund; clear hund
  have HHOL := Lib.hid hhol; clear hhol
  have HEACH := Lib.hid heach; clear heach
  obtain ⟨sa, sc, rfl, _⟩ := HSET.out.row.shape
  obtain ⟨N, HN⟩ : ∃ N, Hid (N = w.heap.size) := ⟨_, Lib.hid rfl⟩
  have HB1 := Lib.hid (alloc_last w (.cells arr 35))
  have HM1 := Lib.hid (more_alloc w (.cells arr 35))
  rw [← HN.out] at HB1 ⊢
  go_enter Tryz.func15, Tryz.ntmps15
  go_upto_region 1 with (fail)
  rw [← HN.out]
  generalize w.alloc (.cells arr 35) = w1 at *
  have HBW := Lib.hid (show Below N w w1 by rw [HN.out]; exact HM1.out.below)
  have n32 : w1.cell? ⟨N, 32, none⟩ = some (.string q) := cell_of_blk HB1.out hq32
  have n33 : w1.cell? ⟨N, 33, none⟩ = some (.int .i64 hor) := cell_of_blk HB1.out h33
  have n35 : w1.cell? ⟨N, 35, none⟩ = some (.slice ua U.length uc) := cell_of_blk HB1.out h35
  have n36 : w1.cell? ⟨N, 36, none⟩ = some (.slice ha H.length hcp) := cell_of_blk HB1.out h36
  have n37 : w1.cell? ⟨N, 37, none⟩ = some (.int .i64 wit) := cell_of_blk HB1.out h37
  have n38 : w1.cell? ⟨N, 38, none⟩ = some (.int .i64 spl) := cell_of_blk HB1.out h38
  have hbn := cell_lt n32
  obtain ⟨ql, HQL⟩ : ∃ ql : Nat, Hid (q.size = ql) := ⟨_, Lib.hid rfl⟩
  by_cases hq : 2000 < q.size
  · have hq' : (2000 : Int) < q.size := by omega
    go_wp2_with fail
    go_ret
    exact ⟨⟨3, rfl, Or.inl ⟨hq, rfl⟩⟩, HBW.out⟩
  · have hq' : decide ((2000 : Int) < q.size) = false := decide_eq_false (by omega)
    have HQ := Lib.hid hq
    by_cases r0 : hor < 0
    · have HR := Lib.hid (show R2 ⟨q, hor, .slice sa Sl.length sc, Sl, .slice ua U.length uc, U, .slice ha H.length hcp, H, wit, spl⟩ from Or.inl r0)
      go_wp2_with fail
      go_ret
      exact ⟨⟨2, rfl, Or.inr ⟨HQ.out, Or.inl ⟨HR.out, rfl⟩⟩⟩, HBW.out⟩
    · have d0 : decide (hor < 0) = false := decide_eq_false r0
      by_cases r1 : 200 < hor
      · have HR := Lib.hid (show R2 ⟨q, hor, .slice sa Sl.length sc, Sl, .slice ua U.length uc, U, .slice ha H.length hcp, H, wit, spl⟩ from Or.inr (Or.inl r1))
        go_wp2_with fail
        go_ret
        exact ⟨⟨2, rfl, Or.inr ⟨HQ.out, Or.inl ⟨HR.out, rfl⟩⟩⟩, HBW.out⟩
      · have d1 : decide (200 < hor) = false := decide_eq_false r1
        by_cases r2 : spl < 0
        · have HR := Lib.hid (show R2 ⟨q, hor, .slice sa Sl.length sc, Sl, .slice ua U.length uc, U, .slice ha H.length hcp, H, wit, spl⟩ from Or.inr (Or.inr (Or.inl r2)))
          go_wp2_with fail
          go_ret
          exact ⟨⟨2, rfl, Or.inr ⟨HQ.out, Or.inl ⟨HR.out, rfl⟩⟩⟩, HBW.out⟩
        · have d2 : decide (spl < 0) = false := decide_eq_false r2
          by_cases r3 : hor < spl
          · have HR := Lib.hid (show R2 ⟨q, hor, .slice sa Sl.length sc, Sl, .slice ua U.length uc, U, .slice ha H.length hcp, H, wit, spl⟩ from Or.inr (Or.inr (Or.inr (Or.inl r3))))
            go_wp2_with fail
            go_ret
            exact ⟨⟨2, rfl, Or.inr ⟨HQ.out, Or.inl ⟨HR.out, rfl⟩⟩⟩, HBW.out⟩
          · have d3 : decide (hor < spl) = false := decide_eq_false r3
            by_cases r4 : wit < 0
            · have HR := Lib.hid (show R2 ⟨q, hor, .slice sa Sl.length sc, Sl, .slice ua U.length uc, U, .slice ha H.length hcp, H, wit, spl⟩ from Or.inr (Or.inr (Or.inr (Or.inr (Or.inl r4)))))
              go_wp2_with fail
              go_ret
              exact ⟨⟨2, rfl, Or.inr ⟨HQ.out, Or.inl ⟨HR.out, rfl⟩⟩⟩, HBW.out⟩
            · have d4 : decide (wit < 0) = false := decide_eq_false r4
              by_cases r5 : 2 < wit
              · have HR := Lib.hid (show R2 ⟨q, hor, .slice sa Sl.length sc, Sl, .slice ua U.length uc, U, .slice ha H.length hcp, H, wit, spl⟩ from Or.inr (Or.inr (Or.inr (Or.inr (Or.inr (r5))))))
                go_wp2_with fail
                go_ret
                exact ⟨⟨2, rfl, Or.inr ⟨HQ.out, Or.inl ⟨HR.out, rfl⟩⟩⟩, HBW.out⟩
              · have d5 : decide (2 < wit) = false := decide_eq_false r5
                have HR2 := Lib.hid (show ¬ R2 ⟨q, hor, .slice sa Sl.length sc, Sl, .slice ua U.length uc, U, .slice ha H.length hcp, H, wit, spl⟩ from by unfold R2; dsimp only; omega)
                have HUL := Lib.hid hul
                have HHL := Lib.hid hhl
                clear r0 r1 r2 r3 r4 r5 hq
                by_cases s0 : U.length < 1
                · have HR := Lib.hid (show R1 ⟨q, hor, .slice sa Sl.length sc, Sl, .slice ua U.length uc, U, .slice ha H.length hcp, H, wit, spl⟩ from Or.inl s0)
                  have s0' : (U.length : Int) < 1 := by omega
                  go_wp2_with fail
                  go_ret
                  exact ⟨⟨1, rfl, Or.inr ⟨HQ.out, Or.inr ⟨HR2.out, Or.inl ⟨HR.out, rfl⟩⟩⟩⟩, HBW.out⟩
                · have e0 : decide ((U.length : Int) < 1) = false := decide_eq_false (by omega)
                  by_cases s1 : 3 < U.length
                  · have HR := Lib.hid (show R1 ⟨q, hor, .slice sa Sl.length sc, Sl, .slice ua U.length uc, U, .slice ha H.length hcp, H, wit, spl⟩ from Or.inr (Or.inl s1))
                    have s1' : (3 : Int) < U.length := by omega
                    go_wp2_with fail
                    go_ret
                    exact ⟨⟨1, rfl, Or.inr ⟨HQ.out, Or.inr ⟨HR2.out, Or.inl ⟨HR.out, rfl⟩⟩⟩⟩, HBW.out⟩
                  · have e1 : decide ((3 : Int) < U.length) = false := decide_eq_false (by omega)
                    by_cases s2 : wit < (H.length : Int)
                    · have HR := Lib.hid (show R1 ⟨q, hor, .slice sa Sl.length sc, Sl, .slice ua U.length uc, U, .slice ha H.length hcp, H, wit, spl⟩ from Or.inr (Or.inr (s2)))
                      have s2' : wit < (H.length : Int) := by omega
                      go_wp2_with fail
                      go_ret
                      exact ⟨⟨1, rfl, Or.inr ⟨HQ.out, Or.inr ⟨HR2.out, Or.inl ⟨HR.out, rfl⟩⟩⟩⟩, HBW.out⟩
                    · have e2 : decide (wit < (H.length : Int)) = false := decide_eq_false (by omega)
                      have HR1 := Lib.hid (show ¬ R1 ⟨q, hor, .slice sa Sl.length sc, Sl, .slice ua U.length uc, U, .slice ha H.length hcp, H, wit, spl⟩ from by unfold R1; dsimp only; omega)
                      clear s0 s1 s2
                      have hln : U.length ≤ 16 := hul
                      go_wp2_with fail
                      clear n32 n33 n35 n36 n37 n38 hbn hq' d0 d1 d2 d3 d4 d5 e0 e1 e2
                      have HU0 := Lib.hid (show 1 ≤ U.length by have h1 := HR1.out; unfold R1 at h1; dsimp only at h1; omega)
                      go_loopw [3] (fun i wr => ∃ j : Nat, i = .int .i64 ((j + 1 : Nat) : Int) ∧ Hid (j + 1 ≤ U.length) ∧ Hid (More w1 wr) ∧ Hid (∀ i (h : i + 1 < U.length), i < j → ltK U[i] U[i + 1])) (fun i _ => U.length - (intOf i).toNat)
                      case atStart => exact ⟨0, rfl, HU0, Lib.hid (World.grownBy.refl _ _), Lib.hid (fun i _ h => by omega)⟩
                      case round =>
                        obtain ⟨j, rfl, HJ, HM, HAS⟩ := hrel
                        obtain ⟨wo, rfl⟩ : ∃ wo : World, wo = wr := ⟨_, rfl⟩
                        have HMW := Lib.hid (more_trans HM1.out HM.out)
                        have HBO := Lib.hid (show Below N w wo by rw [HN.out]; exact HMW.out.below)
                        have HNB := Lib.hid ((HM.out.block (blk_lt HB1.out)).trans HB1.out)
                        have n35 : wo.cell? ⟨N, 35, none⟩ = some (.slice ua U.length uc) := cell_of_blk HNB.out h35
                        have hbn := cell_lt n35
                        by_cases hlt : j + 1 < U.length
                        · have hjl : j < U.length := by omega
                          obtain ⟨b, off, rfl, _, hc⟩ := HUND.out.atC kC_len (i := j) hjl
                          have e0 := HMW.out.cell (hc 0 (.int .u8 U[j].kind) rfl)
                          have e1 := HMW.out.cell (hc 1 (.int .i64 U[j].a) rfl)
                          have e2 := HMW.out.cell (hc 2 (.int .i64 U[j].b) rfl)
                          have e3 := HMW.out.cell (hc 3 (.int .i64 U[j].n) rfl)
                          rw [Nat.add_zero] at e0
                          clear hc
                          obtain ⟨b', off', hab, _, hc⟩ := HUND.out.atC kC_len (i := j + 1) hlt
                          cases hab
                          have g0 := HMW.out.cell (hc 0 (.int .u8 U[j + 1].kind) rfl)
                          have g1 := HMW.out.cell (hc 1 (.int .i64 U[j + 1].a) rfl)
                          have g2 := HMW.out.cell (hc 2 (.int .i64 U[j + 1].b) rfl)
                          have g3 := HMW.out.cell (hc 3 (.int .i64 U[j + 1].n) rfl)
                          rw [Nat.add_zero] at g0
                          clear hc
                          obtain ⟨z, HZ⟩ : ∃ z, Hid ((!decide (cmpK4 U[j] U[j + 1] < 0)) = z) := ⟨_, Lib.hid rfl⟩
                          have HZ0 := Lib.hid (show z = true → ¬ UA ⟨q, hor, .slice sa Sl.length sc, Sl, .slice (some ⟨b, off, none⟩) U.length uc, U, .slice ha H.length hcp, H, wit, spl⟩ from fun h hk => by
                            have h1 := hk j hlt
                            rw [← HZ.out, (decide_eq_true ((cmpK4_neg _ _).2 h1))] at h
                            cases h)
                          have HZ1 := Lib.hid (show z = false → ∀ i (h : i + 1 < U.length), i < j + 1 → ltK U[i] U[i + 1] from fun h i hi hij => by
                            rcases Nat.lt_or_eq_of_le (Nat.lt_succ_iff.1 hij) with h1 | h1
                            · exact HAS.out i hi h1
                            · subst h1
                              rw [← HZ.out, Bool.not_eq_false', decide_eq_true_iff, cmpK4_neg] at h
                              exact h)
                          have HC32 := Lib.hid (fun W => lessK_any U[j] U[j + 1] W)
                          unfold kA at HC32
                          obtain ⟨y, HY⟩ : ∃ y, Hid (decide (cmpK4 U[j] U[j + 1] < 0) = y) := ⟨_, Lib.hid rfl⟩
                          rw [HY.out] at HC32 HZ
                          generalize U[j] = k at *
                          generalize U[j + 1] = x at *
                          have HLT := Lib.hid hlt
                          have hwj : IntKind.i64.wrap (j : Int) = j := by rw [IntKind.wrap_i64]; omega
                          have hbe := cell_lt e0
                          have hbg := cell_lt g0
                          have hjl' : (j : Int) < U.length := by omega
                          have hjl2 : (j : Int) + 1 < U.length := by omega
                          have hjl3 : ((j + 1 : Nat) : Int) < U.length := by omega
                          have hto : ((j : Int) + 1).toNat = j + 1 := by omega
                          have hnn : (0 : Int) ≤ (j : Int) + 1 := by omega
                          have hwj1 : IntKind.i64.wrap ((j : Int) + 1) = (j : Int) + 1 := by rw [IntKind.wrap_i64]; omega
                          have HK := Lib.hid (show ∀ W, More wo W → (W.cell? ⟨N, 35, none⟩ = some (.slice (some ⟨b, off, none⟩) U.length uc) ∧ W.cell? ⟨b, off + j * 4, none⟩ = some (.int .u8 k.kind) ∧ W.cell? ⟨b, off + j * 4 + 1, none⟩ = some (.int .i64 k.a) ∧ W.cell? ⟨b, off + j * 4 + 2, none⟩ = some (.int .i64 k.b) ∧ W.cell? ⟨b, off + j * 4 + 3, none⟩ = some (.int .i64 k.n) ∧ W.cell? ⟨b, off + (j + 1) * 4, none⟩ = some (.int .u8 x.kind) ∧ W.cell? ⟨b, off + (j + 1) * 4 + 1, none⟩ = some (.int .i64 x.a) ∧ W.cell? ⟨b, off + (j + 1) * 4 + 2, none⟩ = some (.int .i64 x.b) ∧ W.cell? ⟨b, off + (j + 1) * 4 + 3, none⟩ = some (.int .i64 x.n)) from fun W h => ⟨h.cell n35, h.cell e0, h.cell e1, h.cell e2, h.cell e3, h.cell g0, h.cell g1, h.cell g2, h.cell g3⟩)
                          have HL := Lib.hid (more_drew wo)
                          go_upto_region 10 with (fail)
                          go_cut [80] (fun s wx => s = .bool z ∧ Hid (More wo wx))
                          case first =>
                            go_region_held3 (fun W => W.cell? ⟨N, 35, none⟩ = some (.slice (some ⟨b, off, none⟩) U.length uc) ∧ W.cell? ⟨b, off + j * 4, none⟩ = some (.int .u8 k.kind) ∧ W.cell? ⟨b, off + j * 4 + 1, none⟩ = some (.int .i64 k.a) ∧ W.cell? ⟨b, off + j * 4 + 2, none⟩ = some (.int .i64 k.b) ∧ W.cell? ⟨b, off + j * 4 + 3, none⟩ = some (.int .i64 k.n) ∧ W.cell? ⟨b, off + (j + 1) * 4, none⟩ = some (.int .u8 x.kind) ∧ W.cell? ⟨b, off + (j + 1) * 4 + 1, none⟩ = some (.int .i64 x.a) ∧ W.cell? ⟨b, off + (j + 1) * 4 + 2, none⟩ = some (.int .i64 x.b) ∧ W.cell? ⟨b, off + (j + 1) * 4 + 3, none⟩ = some (.int .i64 x.n)) (first | with_reducible exact HK.out _ HL.out) (first | (go_at_call 48; refine (HC32.out _).mono ?_; rintro e w9 ⟨rfl, hl9⟩; have HL := Lib.hid (more_trans HL.out hl9.1); clear hl9))
                            all_goals
                              go_wp2_with fail
                              go_meet
                              case rel => exact ⟨by rw [← HZ.out], HL⟩
                          case rest =>
                            obtain ⟨rfl, HMC⟩ := hcut
                            obtain ⟨w6, rfl⟩ : ∃ w6 : World, w6 = wc := ⟨_, rfl⟩
                            have HM6 := Lib.hid (more_trans HM.out HMC.out)
                            have HB6 := Lib.hid (show Below N w w6 by rw [HN.out]; exact (more_trans HM1.out HM6.out).below)
                            clear HK HL HC32 e0 e1 e2 e3 g0 g1 g2 g3 hbe hbg n35 hbn
                            cases z with
                            | true =>
                              go_wp2_with fail
                              go_ret
                              have HUB := Lib.hid (show ¬ UA ⟨q, hor, .slice sa Sl.length sc, Sl, .slice (some ⟨b, off, none⟩) U.length uc, U, .slice ha H.length hcp, H, wit, spl⟩ by first | exact HZ0.out rfl | exact HZ0.out trivial)
                              exact ⟨⟨1, rfl, Or.inr ⟨HQ.out, Or.inr ⟨HR2.out, Or.inr ⟨HR1.out, Or.inl ⟨fun h => HUB.out h.1, rfl⟩⟩⟩⟩⟩, HB6.out⟩
                            | false =>
                              have hlt9 := HLT.out
                              go_wp2_with fail
                              go_roundw
                              case rel => exact ⟨j + 1, by go_num, Lib.hid (by have := HLT.out; omega), HM6, Lib.hid (HZ1.out (by first | rfl | trivial))⟩
                              case measure => have := HLT.out; simp [intOf]; omega
                        · have HUA := Lib.hid (show UA ⟨q, hor, .slice sa Sl.length sc, Sl, .slice ua U.length uc, U, .slice ha H.length hcp, H, wit, spl⟩ from fun i hi => HAS.out i hi (by have := HJ.out; dsimp only at hi; omega))
                          clear n35 hbn
                          have hge : U.length ≤ j + 1 := by omega
                          have n35 : wo.cell? ⟨N, 35, none⟩ = some (.slice ua U.length uc) := cell_of_blk HNB.out h35
                          have hbn := cell_lt n35
                          have HCH := Lib.hid (checkHolds94_any arr hor H _ wo h33 h36 (HHOL.out.below HMW.out.below) (fun p hp => (HEACH.out p hp).more HMW.out) HHL.out)
                          go_wp2_with (refine wpList_load98 rfl _ rfl N rfl arr HNB.out hsz ?_)
                          refine HCH.out.mono ?_
                          rintro e w6 ⟨⟨E, rfl, hE⟩, hb6⟩
                          have HM6 := Lib.hid (more_trans HM.out (more_of hb6))
                          have HB6 := Lib.hid (show Below N w w6 by rw [HN.out]; exact (more_trans HM1.out HM6.out).below)
                          clear hb6 n35 hbn HCH
                          rcases hE with ⟨hok, rfl⟩ | ⟨hbad, rfl⟩
                          rotate_left 1
                          · have HBAD := Lib.hid hbad; clear hbad
                            go_wp2_with fail
                            go_ret
                            exact ⟨⟨1, rfl, Or.inr ⟨HQ.out, Or.inr ⟨HR2.out, Or.inr ⟨HR1.out, Or.inl ⟨fun h => HBAD.out h.2, rfl⟩⟩⟩⟩⟩, HB6.out⟩
                          have HHO := Lib.hid hok; clear hok
                          have HNB6 := Lib.hid ((HM6.out.block (blk_lt HB1.out)).trans HB1.out)
                          have n35 : w6.cell? ⟨N, 35, none⟩ = some (.slice ua U.length uc) := cell_of_blk HNB6.out h35
                          have hbn := cell_lt n35
                          go_wp2_with fail
                          clear n35 hbn hge hlt
                          go_loopw [89] (fun i wr => ∃ j : Nat, j ≤ U.length ∧ i = .int .i64 j ∧ Hid (More w6 wr) ∧ Hid (∀ k ∈ U.take j, hasG Sl k = true)) (fun i _ => U.length - (intOf i).toNat)
                          case atStart => exact ⟨0, Nat.zero_le _, rfl, Lib.hid (World.grownBy.refl _ _), Lib.hid (fun k h => by simp at h)⟩
                          case round =>
                            obtain ⟨j, hj, rfl, HMX, HHS⟩ := hrel
                            obtain ⟨wx, rfl⟩ : ∃ wx : World, wx = wr := ⟨_, rfl⟩
                            have HMW := Lib.hid (show More w wx from more_trans HM1.out (more_trans HM6.out HMX.out))
                            have HBX := Lib.hid (show Below N w wx by rw [HN.out]; exact HMW.out.below)
                            by_cases hlt : j < U.length
                            · obtain ⟨b, off, rfl, _, hc⟩ := HUND.out.atC kC_len hlt
                              have g0 := HMW.out.cell (hc 0 (.int .u8 U[j].kind) rfl)
                              have g1 := HMW.out.cell (hc 1 (.int .i64 U[j].a) rfl)
                              have g2 := HMW.out.cell (hc 2 (.int .i64 U[j].b) rfl)
                              have g3 := HMW.out.cell (hc 3 (.int .i64 U[j].n) rfl)
                              rw [Nat.add_zero] at g0
                              clear hc
                              have HT := Lib.hid (show U.take (j + 1) = U.take j ++ [U[j]] from List.take_succ_eq_append_getElem hlt)
                              have HNO := Lib.hid (show hasG Sl U[j] = false → ¬ HS ⟨q, hor, .slice sa Sl.length sc, Sl, .slice (some ⟨b, off, none⟩) U.length uc, U, .slice ha H.length hcp, H, wit, spl⟩ from fun h hk => by
                                have h1 := hk _ (List.getElem_mem hlt)
                                dsimp only at h1
                                rw [h] at h1
                                exact Bool.noConfusion h1)
                              have HLT := Lib.hid hlt
                              generalize U[j] = x at *
                              have hbg := cell_lt g0
                              have HXB := Lib.hid (alloc_last wx (.cells #[.int .u8 x.kind, .int .i64 x.a, .int .i64 x.b, .int .i64 x.n] 53))
                              have HMO := Lib.hid (more_alloc wx (.cells #[.int .u8 x.kind, .int .i64 x.a, .int .i64 x.b, .int .i64 x.n] 53))
                              go_upto_region 18 with (fail)
                              clear g0 g1 g2 g3 hbg
                              generalize wx.alloc (.cells #[.int .u8 x.kind, .int .i64 x.a, .int .i64 x.b, .int .i64 x.n] 53) = w7 at *
                              generalize wx.heap.size = XB at *
                              have HM7 := Lib.hid (more_trans HMW.out HMO.out)
                              have HNB7 := Lib.hid (((more_trans HMX.out HMO.out).block (blk_lt HNB6.out)).trans HNB6.out)
                              have n34 : w7.cell? ⟨N, 34, none⟩ = some (.slice sa Sl.length sc) := cell_of_blk HNB7.out h34
                              have x0 : w7.cell? ⟨XB, 0, none⟩ = some (.int .u8 x.kind) := cell_of_blk HXB.out rfl
                              have x1 : w7.cell? ⟨XB, 1, none⟩ = some (.int .i64 x.a) := cell_of_blk HXB.out rfl
                              have x2 : w7.cell? ⟨XB, 2, none⟩ = some (.int .i64 x.b) := cell_of_blk HXB.out rfl
                              have x3 : w7.cell? ⟨XB, 3, none⟩ = some (.int .i64 x.n) := cell_of_blk HXB.out rfl
                              have hbn := cell_lt n34
                              have hbx := cell_lt x0
                              have HGE := Lib.hid (get83_gen Sl x _ w7 (HSET.out.more HM7.out))
                              go_wp2_with fail
                              refine HGE.out.mono ?_
                              rintro e w8 ⟨⟨pa, pn, pc, y, rfl⟩, hb8⟩
                              have HM8 := Lib.hid (more_trans HMX.out (more_trans HMO.out (more_of hb8)))
                              have HB8 := Lib.hid (show Below N w w8 by rw [HN.out]; exact (more_trans HM1.out (more_trans HM6.out HM8.out)).below)
                              clear hb8 HGE n34 x0 x1 x2 x3 hbn hbx
                              unfold gA
                              dsimp only
                              obtain ⟨z, HZ⟩ : ∃ z, Hid (hasG Sl x = z) := ⟨_, Lib.hid rfl⟩
                              rw [HZ.out] at HNO ⊢
                              have HMF := Lib.hid (more_alloc w8 (.cells #[.int .u8 y.k.kind, .int .i64 y.k.a, .int .i64 y.k.b, .int .i64 y.k.n, .int .i64 y.t, .int .i64 y.d, .slice pa pn pc] 58))
                              have HBF := Lib.hid (show Below N w (w8.alloc (.cells #[.int .u8 y.k.kind, .int .i64 y.k.a, .int .i64 y.k.b, .int .i64 y.k.n, .int .i64 y.t, .int .i64 y.d, .slice pa pn pc] 58)) by rw [HN.out]; exact (more_trans HM1.out (more_trans HM6.out (more_trans HM8.out HMF.out))).below)
                              cases z with
                              | false =>
                                have HNH := Lib.hid (show ¬ HS ⟨q, hor, .slice sa Sl.length sc, Sl, .slice (some ⟨b, off, none⟩) U.length uc, U, .slice ha H.length hcp, H, wit, spl⟩ by first | exact HNO.out rfl | exact HNO.out trivial)
                                go_wp2_with fail
                                go_ret
                                exact ⟨⟨4, rfl, Or.inr ⟨HQ.out, Or.inr ⟨HR2.out, Or.inr ⟨HR1.out, Or.inr ⟨⟨HUA.out, HHO.out⟩, Or.inl ⟨HNH.out, rfl⟩⟩⟩⟩⟩⟩, HBF.out⟩
                              | true =>
                                have hlt9 := HLT.out
                                go_wp2_with fail
                                go_roundw
                                case rel => exact ⟨j + 1, by omega, by go_num, Lib.hid (more_trans HM8.out HMF.out), Lib.hid (fun k hk => by
                                    rw [HT.out] at hk
                                    rcases List.mem_append.1 hk with h | h
                                    · exact HHS.out k h
                                    · rw [List.mem_singleton] at h; subst h; exact HZ.out)⟩
                                case measure => have := HLT.out; simp [intOf]; omega
                            · obtain rfl : j = U.length := by omega
                              rw [List.take_of_length_le (Nat.le_refl _)] at HHS
                              go_wp2_with fail
                              go_ret
                              exact ⟨⟨0, rfl, Or.inr ⟨HQ.out, Or.inr ⟨HR2.out, Or.inr ⟨HR1.out, Or.inr ⟨⟨HUA.out, HHO.out⟩, Or.inr ⟨HHS.out, rfl⟩⟩⟩⟩⟩⟩, HBX.out⟩
end Go.Proofs.YtemeppfikpafbaaGreatDoor

/- Bytes: num.put (153), PutUint (147), Zigzag (154), PutInt (103), certificate.putInt (102). -/
namespace Go.Proofs.YtemeppfikpafbaaGreatDoor
open Go.RowKit
theorem infoB : (Tryz.prog.info? 5).map (fun i => (i.zero, i.size, i.bytes)) = some (some (.int .u8 0), 1, 1) := by kernel_rfl
def bV (O : List Int) : List Value := O.map fun k => .int .u8 k
theorem bV_push (O : List Int) (k : Int) : bV (O ++ [k]) = bV O ++ [.int .u8 k] := by simp [bV]
theorem bV_append (O P : List Int) : bV (O ++ P) = bV O ++ bV P := by simp [bV]
theorem bV_length (O : List Int) : (bV O).length = O.length := by simp [bV]
theorem bV_one (O : List Int) : ∀ u ∈ bV O, u.oneCell' = true := fun u hu => by
  obtain ⟨k, _, rfl⟩ := List.mem_map.1 hu; rfl
/-- The encoding of a number. -/
def encU (v : Nat) : List Int := if v < 128 then [(v : Int)] else ((v % 128 + 128 : Nat) : Int) :: encU (v / 128)
termination_by v
theorem encU_lt {v : Nat} (h : v < 128) : encU v = [(v : Int)] := by rw [encU, if_pos h]
theorem encU_ge {v : Nat} (h : ¬ v < 128) : encU v = ((v % 128 + 128 : Nat) : Int) :: encU (v / 128) := by rw [encU, if_neg h]
theorem encU_pos (v : Nat) : 1 ≤ (encU v).length := by
  rw [encU]; split <;> simp
theorem encU_len' (k v : Nat) (h : v < 128 ^ (k + 1)) : (encU v).length ≤ k + 1 := by
  induction k generalizing v with
  | zero => rw [encU_lt (by simpa using h)]; simp
  | succ k ih =>
    by_cases hv : v < 128
    · rw [encU_lt hv]; simp
    · rw [encU_ge hv, List.length_cons]
      have := ih (v / 128) (by rw [Nat.div_lt_iff_lt_mul (by omega)]; rw [Nat.pow_succ] at h; exact h)
      omega
theorem encU_len (v : Nat) (h : v < 18446744073709551616) : (encU v).length ≤ 10 := encU_len' 9 v (by omega)
theorem bits_or_all : ∀ x : Fin 256, bits BinOp.or IntKind.u8 ((x.val : Nat) : Int) 128 = ((x.val % 128 + 128 : Nat) : Int) := by decide +kernel
theorem bits_or128 (m : Nat) : bits BinOp.or IntKind.u8 ((m : Int) % 256) 128 = ((m % 128 + 128 : Nat) : Int) := by
  have h := bits_or_all ⟨m % 256, by omega⟩
  rw [show ((m % 256 : Nat) : Int) = (m : Int) % 256 by omega] at h
  rw [h, show m % 256 % 128 = m % 128 by omega]
theorem byt_app {B : Nat} {w wr w2 : World} {O : List Int} {k : Int} {oa : Option Addr} {ocap g cap : Nat} {ob : Obj} (hb : Below B w wr) (hB : B ≤ w.heap.size) (hO : wr.ownsRow B 5 1 (.slice oa O.length ocap) O.length (bV O))
    (hgrow : (wr.alloc ob).grownBy w2 (Value.slice oa O.length ocap).ownBlock) (hown : w2.ownsRow B 5 1 (.slice (some ⟨g, 0, none⟩) (O.length + 1) cap) (O.length + 1) (bV O ++ [.int .u8 k])) :
    Below B w w2 ∧ w2.ownsRow B 5 1 (.slice (some ⟨g, 0, none⟩) (O.length + 1) cap) (O ++ [k]).length (bV (O ++ [k])) := by
  obtain ⟨_, _, _, hoo⟩ := owns_shape hO
  have hs : B ≤ wr.heap.size := Nat.le_trans hB hb.size
  refine ⟨(hb.alloc hs ob).grown hgrow (by rw [World.size_alloc]; exact Nat.le_succ_of_le hs) (fun y hy => (hoo y hy).1), ?_⟩
  rw [bV_push, List.length_append]; exact hown

set_option maxRecDepth 100000 in
set_option maxHeartbeats 400000 in
theorem nput153_any (l : List Int) (v : Value) (u B : Nat) (w : World) (hu : u < 18446744073709551616) (hl : l.length < 4294960000) (hB : B ≤ w.heap.size) (h : w.ownsRow B 5 1 v l.length (bV l)) :
    Calls Tryz.prog 53 #[v, .int .u64 u] w fun e w' => Below B w w' ∧ ∃ v', e = .returned v' ∧ w'.ownsRow B 5 1 v' (l ++ encU u).length (bV (l ++ encU u)) := by
  obtain ⟨i0, hi0, hz0, hz1, hz2⟩ := info_parts infoB
  have HO := Lib.hid h; clear h
  go_enter Tryz.func53, Tryz.ntmps53
  go_wp2_with fail
  go_loopw [0, 1] (fun p n wr => ∃ (m : Nat) (O : List Int), n = .int .u64 m ∧ m ≤ u ∧ Hid (O ++ encU m = l ++ encU u) ∧ Hid (Below B w wr) ∧ Hid (wr.ownsRow B 5 1 p O.length (bV O))) (fun _ n _ => (intOf n).toNat)
  case atStart => exact ⟨u, l, rfl, Nat.le_refl _, Lib.hid rfl, Lib.hid (Below.refl _ _), HO⟩
  case round =>
    obtain ⟨m, O, rfl, hmu, HE, HB, HOW⟩ := hrel
    obtain ⟨oa, ocap, rfl, hoo⟩ := owns_shape HOW.out
    have hbs : B ≤ wr.heap.size := Nat.le_trans hB HB.out.size
    have hOl : O.length + 1 ≤ l.length + 12 := by
      have h1 := congrArg List.length HE.out
      rw [List.length_append, List.length_append] at h1
      have h2 := encU_len u hu
      have h3 := encU_pos m
      omega
    have hm1 : O.length + 1 ≤ maxLen := by unfold maxLen; omega
    have hm2 : (O.length + 1) * 1 ≤ 140737488355328 := by omega
    by_cases hm : m < 128
    · have t1 : decide (128 ≤ (m : Int)) = false := by simp; omega
      have HD := Lib.hid (show O ++ [(m : Int)] = l ++ encU u by rw [← HE.out, encU_lt hm])
      go_wp2_with (at_builtin; refine wpList_append_lies _ rfl _ _ _ rfl B 5 i0 _ 1 1 Tryz.underlying26 hi0 hz0 hz1 hz2 rfl (by omega) (.slice oa O.length ocap) O.length (bV O) rfl (HOW.out.alloc _) ⟨wr.heap.size, 0, none⟩ 1 1 [.int .u8 m] rfl rfl (World.news_of_block (cs := #[.int .u8 m]) (t := 5) (fr := (0, 0)) (heap_alloc_new _ _)) (by simp [Value.oneCell']) (by omega) hm1 hm2 (Nat.le_trans hbs (by rw [World.size_alloc]; exact Nat.le_succ _)) _ rfl ?_; intro gg2 cap2 w2 hown2 hgrow2 hat2 hlt2)
      obtain ⟨hb3, ho3⟩ := byt_app HB.out hB HOW.out hgrow2 hown2
      have HB3 := Lib.hid hb3
      have HO3 := Lib.hid ho3
      clear hown2 hgrow2 hat2 hlt2 hb3 ho3
      go_wp2_with fail
      go_ret
      exact ⟨HB3.out, _, rfl, by rw [← HD.out]; exact HO3.out⟩
    · have t1 : decide (128 ≤ (m : Int)) = true := by simp; omega
      have HD := Lib.hid (show (O ++ [bits BinOp.or IntKind.u8 ((m : Int) % 256) 128]) ++ encU (m / 128) = l ++ encU u by rw [← HE.out, encU_ge hm, bits_or128]; simp)
      go_wp2_with (at_builtin; refine wpList_append_lies _ rfl _ _ _ rfl B 5 i0 _ 1 1 Tryz.underlying26 hi0 hz0 hz1 hz2 rfl (by omega) (.slice oa O.length ocap) O.length (bV O) rfl (HOW.out.alloc _) ⟨wr.heap.size, 0, none⟩ 1 1 [.int .u8 (bits BinOp.or IntKind.u8 ((m : Int) % 256) 128)] rfl rfl (World.news_of_block (cs := #[.int .u8 (bits BinOp.or IntKind.u8 ((m : Int) % 256) 128)]) (t := 5) (fr := (0, 0)) (heap_alloc_new _ _)) (by simp [Value.oneCell']) (by omega) hm1 hm2 (Nat.le_trans hbs (by rw [World.size_alloc]; exact Nat.le_succ _)) _ rfl ?_; intro gg2 cap2 w2 hown2 hgrow2 hat2 hlt2)
      obtain ⟨hb3, ho3⟩ := byt_app HB.out hB HOW.out hgrow2 hown2
      have HB3 := Lib.hid hb3
      have HO3 := Lib.hid ho3
      clear hown2 hgrow2 hat2 hlt2 hb3 ho3
      go_wp2_with fail
      go_roundw
      case rel => exact ⟨m / 128, O ++ [bits BinOp.or IntKind.u8 ((m : Int) % 256) 128], by go_num, by omega, HD, HB3, HO3⟩
      case measure => simp [intOf]; omega
theorem run_make92 (n : Nat) (hn : n < 4294967296) (w : World) :
    (Instr.makeSlice 26 (.int .i64 0) (.int .i64 (n : Int))).run Tryz.prog w = .ok (.slice (some ⟨w.heap.size, 0, none⟩) 0 n) (w.alloc (.cells (madeCells #[.int .u8 0] n) 5)) := by
  obtain ⟨i, hi, hzz⟩ := Option.map_eq_some_iff.1 infoB
  simp only [Prod.mk.injEq] at hzz
  obtain ⟨hz, hs, hb⟩ := hzz
  have hr := run_make (P := Tryz.prog) w 26 5 i _ Tryz.underlying26 hi hz .i64 .i64 0 n (by omega) (by omega) (by rw [hb]; omega) (by omega)
  simpa [Int.toNat_natCast, hs, Value.cells] using hr
/-- Bytes in memory, nil or not. -/
structure ByG (w : World) (l : List Int) (v : Value) : Prop where
  row : Row anyB w 1 l.length v (bV l)
  nil : NilA v
theorem ByG.more {w w' : World} {l : List Int} {v : Value} (h : ByG w l v) (hm : More w w') : ByG w' l v := ⟨h.row.below hm.below, h.nil⟩
theorem ByG.of_owns {w : World} {B : Nat} {l : List Int} {v : Value} (h : w.ownsRow B 5 1 v l.length (bV l)) : ByG w l v := ⟨(Row.of_owns h).mono (fun _ _ => trivial) (fun _ _ _ _ h => h), owns_nil h⟩
set_option maxRecDepth 100000 in
set_option maxHeartbeats 1000000 in
theorem put147_any (l : List Int) (v : Value) (u : Nat) (w : World) (hu : u < 18446744073709551616) (hl : l.length < 4294900000) (h : ByG w l v) :
    Calls Tryz.prog 54 #[v, .int .u64 u] w fun e w' => (∃ v', e = .returned v' ∧ w'.ownsRow w.heap.size 5 1 v' (l ++ encU u).length (bV (l ++ encU u))) ∧ Below w.heap.size w w' := by
  obtain ⟨i0, hi0, hz0, hz1, hz2⟩ := info_parts infoB
  obtain ⟨a, cap, rfl, _⟩ := h.row.shape
  obtain ⟨N, hN⟩ : ∃ N, N = l.length + 10 := ⟨_, rfl⟩
  have HN := Lib.hid hN
  have hmk := run_make92 N (by omega) w
  rw [show ((N : Nat) : Int) = (l.length : Int) + 10 by omega] at hmk
  have HOWN := Lib.hid (World.ownsRow_made (base := w.heap.size) (e := 5) (size := 1) w (madeCells #[.int .u8 0] N) N (Nat.le_refl _) (by unfold maxLen; omega) (by simp [madeCells]))
  have HM0 := Lib.hid (more_alloc w (.cells (madeCells #[.int .u8 0] N) 5))
  have HR := Lib.hid (h.row.below HM0.out.below)
  have HNI := Lib.hid h.nil
  clear h hN
  generalize hR : l ++ encU u = R
  have HRR := Lib.hid hR; clear hR
  obtain ⟨ln, HLN⟩ : ∃ ln, Hid (l.length = ln) := ⟨_, Lib.hid rfl⟩
  rw [HLN.out] at HR hl hmk HNI ⊢
  have hm1 : 0 + ln ≤ maxLen := by unfold maxLen; omega
  have hm2 : (0 + ln) * 1 ≤ 140737488355328 := by omega
  have HW := Lib.hid (And.intro hm1 hm2)
  clear hm1 hm2
  have hw10 : IntKind.i64.wrap ((ln : Int) + 10) = (ln : Int) + 10 := by rw [IntKind.wrap_i64]; omega
  go_enter Tryz.func54, Tryz.ntmps54
  go_upto_region 2 with (fail)
  have HS0 := Lib.hid (show w.heap.size ≤ (w.alloc (.cells (madeCells #[.int .u8 0] N) 5)).heap.size from HM0.out.size)
  generalize w.alloc (.cells (madeCells #[.int .u8 0] N) 5) = w1 at *
  go_wp2_with (at_builtin; refine wpList_append_rowC rfl _ _ 26 rfl w.heap.size 5 i0 _ 1 1 Tryz.underlying26 hi0 hz0 hz1 hz2 rfl (by omega) (.slice (some ⟨w.heap.size, 0, none⟩) 0 N) 0 [] (by first | rfl | (rw [HN.out, HLN.out]; rfl)) HOWN.out (.slice a ln cap) ln (bV l) rfl HR.out HNI.out (bV_one l) HW.out.1 HW.out.2 HS0.out ?_; intro v2 w2 hown hgrow; rw [Nat.zero_add, List.nil_append] at hown; obtain ⟨ga, gc, rfl, _⟩ := owns_shape hown)
  have HB2 := Lib.hid (show Below w.heap.size w w2 from HM0.out.below.grown hgrow HS0.out (fun z hz => (HOWN.out.lt z hz).1))
  have HO2 := Lib.hid (show w2.ownsRow w.heap.size 5 1 (.slice ga l.length gc) l.length (bV l) by rw [HLN.out]; exact hown)
  clear hown hgrow hmk
  have HP := Lib.hid (nput153_any l _ u w.heap.size w2 hu (by rw [HLN.out]; omega) HB2.out.size HO2.out)
  rw [HLN.out] at HP
  refine HP.out.mono ?_
  rw [HRR.out]
  rintro e w' ⟨hb, v', rfl, ho⟩
  have HB := Lib.hid (HB2.out.trans hb)
  have HO := Lib.hid ho
  clear hb ho
  obtain ⟨va, vc, rfl, _⟩ := owns_shape HO.out
  go_wp2_with fail
  go_ret
  exact ⟨⟨_, rfl, HO.out⟩, HB.out⟩
/-- 2 x, or -2 x - 1. -/
def zz (x : Int) : Nat := if x < 0 then (-2 * x - 1).toNat else (2 * x).toNat
theorem zz_lt {x : Int} (h1 : -9223372036854775808 ≤ x) (h2 : x ≤ 9223372036854775807) : zz x < 18446744073709551616 := by
  unfold zz; split <;> omega
theorem xor_max (y : Nat) (h : y < 18446744073709551616) : 18446744073709551615 ^^^ y = 18446744073709551615 - y := by
  have := BitVec.toNat_not (x := BitVec.ofNat 64 y)
  rw [BitVec.not_def, BitVec.toNat_xor, BitVec.toNat_allOnes, BitVec.toNat_ofNat, Nat.mod_eq_of_lt h] at this
  exact this
theorem zz_neg {x : Int} (h1 : -9223372036854775808 ≤ x) (hx : x < 0) : bits BinOp.xor IntKind.u64 IntKind.u64.max (IntKind.u64.wrap (IntKind.u64.wrap x * 2)) = (zz x : Int) := by
  have hz : zz x = (-2 * x - 1).toNat := by unfold zz; rw [if_pos hx]
  obtain ⟨y, hy⟩ : ∃ y : Nat, (y : Int) = 18446744073709551616 + 2 * x := ⟨(18446744073709551616 + 2 * x).toNat, by omega⟩
  have e1 : IntKind.u64.wrap (IntKind.u64.wrap x * 2) = (y : Int) := by rw [IntKind.wrap_u64, IntKind.wrap_u64]; omega
  have e2 : IntKind.u64.max = ((18446744073709551615 : Nat) : Int) := by decide
  rw [e1, e2, bits_xor_u64_nat _ _ (by omega) (by omega), xor_max y (by omega)]
  omega
theorem zz_pos {x : Int} (h2 : x ≤ 9223372036854775807) (hx : ¬ x < 0) : IntKind.u64.wrap (IntKind.u64.wrap x * 2) = (zz x : Int) := by
  have hz : zz x = (2 * x).toNat := by unfold zz; rw [if_neg hx]
  rw [IntKind.wrap_u64, IntKind.wrap_u64]; omega
set_option maxHeartbeats 400000 in
theorem zigzag154_any (x : Int) (w : World) (h1 : -9223372036854775808 ≤ x) (h2 : x ≤ 9223372036854775807) : Calls Tryz.prog 55 #[.int .i64 x] w fun e w' => e = .returned (.int .u64 (zz x)) ∧ w = w' := by
  by_cases hx : x < 0
  · have t1 : decide (x < 0) = true := by simp [hx]
    have HZ := Lib.hid (zz_neg h1 hx)
    clear h1 h2
    go_enter Tryz.func55, Tryz.ntmps55
    go_wp2_with fail
    go_ret
    exact ⟨by rw [← HZ.out]; rfl, rfl⟩
  · have t1 : decide (x < 0) = false := by simpa using hx
    have HZ := Lib.hid (zz_pos h2 hx)
    clear h1 h2 hx
    go_enter Tryz.func55, Tryz.ntmps55
    go_wp2_with fail
    go_ret
    exact ⟨by rw [← HZ.out]; rfl, rfl⟩

set_option maxRecDepth 100000 in
set_option maxHeartbeats 400000 in
theorem putInt103_any (l : List Int) (v : Value) (x : Int) (w : World) (h1 : -9223372036854775808 ≤ x) (h2 : x ≤ 9223372036854775807) (hl : l.length < 4294900000) (h : ByG w l v) :
    Calls Tryz.prog 22 #[v, .int .i64 x] w fun e w' => (∃ v', e = .returned v' ∧ w'.ownsRow w.heap.size 5 1 v' (l ++ encU (zz x)).length (bV (l ++ encU (zz x)))) ∧ Below w.heap.size w w' := by
  obtain ⟨a, cap, rfl, _⟩ := h.row.shape
  have HV := Lib.hid (put147_any l _ (zz x) w (zz_lt h1 h2) hl h)
  clear h
  generalize hR : l ++ encU (zz x) = R at *
  clear hR
  go_enter Tryz.func22, Tryz.ntmps22
  go_wp2_with fail
  refine (zigzag154_any x w h1 h2).mono ?_
  rintro e w' ⟨rfl, rfl⟩
  go_wp2_with fail
  refine HV.out.mono ?_
  rintro e w' ⟨⟨v', rfl, ho⟩, hb⟩
  have HB := Lib.hid hb
  have HO := Lib.hid ho
  clear hb ho
  obtain ⟨va, vc, rfl, _⟩ := owns_shape HO.out
  go_wp2_with fail
  go_ret
  exact ⟨⟨_, rfl, HO.out⟩, HB.out⟩
set_option maxRecDepth 100000 in
set_option maxHeartbeats 400000 in
theorem putInt102_any (l : List Int) (v : Value) (x : Nat) (w : World) (h2 : (x : Int) ≤ 9223372036854775807) (hl : l.length < 4294900000) (h : ByG w l v) :
    Calls Tryz.prog 20 #[v, .int .i64 x] w fun e w' => (∃ v', e = .returned v' ∧ w'.ownsRow w.heap.size 5 1 v' (l ++ encU x).length (bV (l ++ encU x))) ∧ Below w.heap.size w w' := by
  obtain ⟨a, cap, rfl, _⟩ := h.row.shape
  have HV := Lib.hid (put147_any l _ x w (by omega) hl h)
  clear h
  generalize hR : l ++ encU x = R at *
  clear hR
  have hw : IntKind.u64.wrap (x : Int) = x := by rw [IntKind.wrap_u64]; omega
  go_enter Tryz.func20, Tryz.ntmps20
  go_wp2_with fail
  refine HV.out.mono ?_
  rintro e w' ⟨⟨v', rfl, ho⟩, hb⟩
  have HB := Lib.hid hb
  have HO := Lib.hid ho
  clear hb ho
  obtain ⟨va, vc, rfl, _⟩ := owns_shape HO.out
  go_wp2_with fail
  go_ret
  exact ⟨⟨_, rfl, HO.out⟩, HB.out⟩
end Go.Proofs.YtemeppfikpafbaaGreatDoor

