/- Texts RndW, laid together. -/
import Derived.Deep.CutBlock
import Derived.Test.YtekhoanjpnjaeaaNh
import Derived.Test.YtekhoanjpnjaeaaNy
import Derived.Test.YtekhoanjpnjaeaaNbf
/- The walk of ExprRandom (18). -/
namespace Go.Proofs.Ytekhoanjpnjaeaa
open Go.RowKit
/-- The elements of a slice of structs, as the loops want them. -/
def Els (W : World) (size : Nat) (P : PRd) (a : Option Addr) (n : Nat) : Prop := 0 < n → ∃ b off, a = some ⟨b, off, none⟩ ∧ ∀ i, i < n → ∃ l : List Value, l.length = size ∧ P (fun _ => True) W l ∧ ∀ j u, l[j]? = some u → W.cell? ⟨b, off + i * size + j, none⟩ = some u
theorem els_of {size N : Nat} {P : PRd} {W : World} {v : Value} (h : RowOf size N P (fun _ => True) W v) : ∃ a n c, v = .slice a n c ∧ n ≤ N ∧ Els W size P a n := by
  obtain ⟨a, n, c, rfl, h1, h2⟩ := h.at
  exact ⟨a, n, c, rfl, h1, fun h0 => by obtain ⟨b, off, h3, _, h4⟩ := h2 h0; exact ⟨b, off, h3, h4⟩⟩
theorem fld117 (s : ByteArray) (fa qa ra : Option Addr) (fn fc qn qc rn rc : Nat) (W : World) : (Instr.field 117 (.agg #[.string s, .slice fa fn fc, .slice qa qn qc, .slice ra rn rc]) 3).run Try.prog W = .ok (.slice ra rn rc) W := by
  kernel_rfl
set_option maxRecDepth 100000 in
set_option maxHeartbeats 4000000 in
theorem random_walk (fl vn : Int) (la ca : Option Addr) (ln lc cn cc : Nat) (w : World) (hf : 0 ≤ fl ∧ fl ≤ 255) (hl : BytesAt (fun _ => True) w (.slice la ln lc)) (hpc : PlainZ ca cn cc) (hc : RowOf 4 maxLen PartC (fun _ => True) w (.slice ca cn cc)) (hv : In64 vn) :
    Calls Try.prog 18 #[.agg #[.int .u8 fl, .slice la ln lc, .slice ca cn cc], .int .i64 vn] w fun e w' => e = .returned (.bool true) ∧ Below w.heap.size w w' := by
  have HF := Lib.hid hf
  have HL := Lib.hid hl
  have HPC := Lib.hid hpc
  have HC := Lib.hid hc
  have HV := Lib.hid hv
  clear hf hl hpc hc hv
  have HA1 := Lib.hid (more_allocD w (.cells #[.int .u8 fl, .slice la ln lc, .slice ca cn cc] 112))
  have HP1 := Lib.hid (alloc_last w (.cells #[.int .u8 fl, .slice la ln lc, .slice ca cn cc] 112))
  obtain ⟨PB, HPE⟩ : ∃ B, Hid (B = w.heap.size) := ⟨_, Lib.hid rfl⟩
  rw [← HPE.out] at HP1
  go_enter Try.func18, Try.ntmps18
  go_upto_region 1 with fail
  try rw [← HPE.out]
  generalize w.alloc (.cells #[.int .u8 fl, .slice la ln lc, .slice ca cn cc] 112) = w1 at *
  go_wp2_with fail
  refine (awake_any _).mono ?_
  rintro e w2 ⟨rfl, hb⟩
  have HM2 := Lib.hid (more_trans HA1.out (more_of hb))
  have HP2 := Lib.hid (((more_of hb).block (blk_ltD HP1.out)).trans HP1.out)
  clear hb
  have c0 : w2.cell? ⟨PB, 0, none⟩ = some (.int .u8 fl) := by simp [World.cell?, HP2.out]
  have c1 : w2.cell? ⟨PB, 1, none⟩ = some (.slice la ln lc) := by simp [World.cell?, HP2.out]
  have c2 : w2.cell? ⟨PB, 2, none⟩ = some (.slice ca cn cc) := by simp [World.cell?, HP2.out]
  have hbp := cell_lt c0
  go_wp2_with fail
  refine (fleet_any fl la ca ln lc cn cc w2 HF.out (bytesAt_keep (fun b off u _ hc => ⟨trivial, HM2.out.cell hc⟩) HL.out) HPC.out (HC.out.keep partC_keep (by decide) (fun b off u _ hc => ⟨trivial, HM2.out.cell hc⟩))).mono ?_
  rintro e w3 ⟨fa, fn, fc, qa, qn, qc, cv, rfl, hcs, hb⟩
  obtain ⟨a1, n1, x1, rfl, hn1, he1⟩ := els_of hcs
  have HE1 := Lib.hid he1
  have HM3 := Lib.hid (more_trans HM2.out (more_of hb))
  have HMX := Lib.hid (show More w3 w3 from more_of (Below.refl _ _))
  clear hcs he1 hb c0 c1 c2 hbp
  have hfd := fld117 ⟨#[102, 108, 101, 101, 116, 49]⟩ fa qa a1 fn fc qn qc n1 x1
  go_wp2_with fail
  clear hfd
  go_loopw [32] (fun i wr => ∃ k : Nat, k ≤ n1 ∧ i = .int .i64 (k : Int) ∧ Hid (More w3 wr)) (fun i _ => n1 - (intOf i).toNat)
  case atStart => exact ⟨0, Nat.zero_le _, rfl, HMX⟩
  case round =>
    obtain ⟨k1, hk, rfl, HR1⟩ := hrel
    obtain ⟨u1, rfl⟩ : ∃ wo : World, wo = wr := ⟨_, rfl⟩
    by_cases hlt : k1 < n1
    · skip
      have HLT1 := Lib.hid hlt
      have hki1 : (k1 : Int) < (n1 : Int) := by omega
      obtain ⟨b1, o1, rfl, hx⟩ := HE1.out (by omega)
      obtain ⟨l, _, ⟨s1, ya, yn, yc, v2, rfl, hv2⟩, hcell⟩ := hx k1 hlt
      obtain ⟨a2, n2, x2, rfl, hn2, he2⟩ := els_of hv2
      have HE2 := Lib.hid he2
      have e0 := HR1.out.cell (hcell 0 _ rfl)
      have e1 := HR1.out.cell (hcell 1 _ rfl)
      have e2 := HR1.out.cell (hcell 2 _ rfl)
      rw [Nat.add_zero] at e0
      have hbe := cell_lt e0
      clear hx hcell hv2 he2 hlt
      have HAB := Lib.hid (more_allocD u1 (.cells #[.string s1, .slice ya yn yc, .slice a2 n2 x2] 122))
      have HBX := Lib.hid (alloc_last u1 (.cells #[.string s1, .slice ya yn yc, .slice a2 n2 x2] 122))
      go_upto_region 6 with fail
      generalize u1.alloc (.cells #[.string s1, .slice ya yn yc, .slice a2 n2 x2] 122) = q1 at *
      have f2 : q1.cell? ⟨u1.heap.size, 2, none⟩ = some (.slice a2 n2 x2) := by simp [World.cell?, HBX.out]
      have hbf := cell_lt f2
      have HQ1 := Lib.hid (more_trans HR1.out HAB.out)
      clear e0 e1 e2 hbe
      go_wp2_with fail
      clear f2 hbf
      go_loopw [39] (fun i wr => ∃ k : Nat, k ≤ n2 ∧ i = .int .i64 (k : Int) ∧ Hid (More w3 wr)) (fun i _ => n2 - (intOf i).toNat)
      case atStart => exact ⟨0, Nat.zero_le _, rfl, HQ1⟩
      case round =>
        obtain ⟨k2, hk, rfl, HR2⟩ := hrel
        obtain ⟨u2, rfl⟩ : ∃ wo : World, wo = wr := ⟨_, rfl⟩
        by_cases hlt : k2 < n2
        · skip
          have HLT2 := Lib.hid hlt
          have hki2 : (k2 : Int) < (n2 : Int) := by omega
          obtain ⟨b2, o2, rfl, hx⟩ := HE2.out (by omega)
          obtain ⟨l, _, ⟨v3, rfl, hv3⟩, hcell⟩ := hx k2 hlt
          obtain ⟨a3, n3, x3, rfl, hn3, he3⟩ := els_of hv3
          have HE3 := Lib.hid he3
          have e0 := HR2.out.cell (hcell 0 _ rfl)
          rw [Nat.add_zero, Nat.mul_one] at e0
          have hbe := cell_lt e0
          clear hx hcell hv3 he3 hlt
          go_wp2_with fail
          clear e0 hbe
          go_loopw [45] (fun i wr => ∃ k : Nat, k ≤ n3 ∧ i = .int .i64 (k : Int) ∧ Hid (More w3 wr)) (fun i _ => n3 - (intOf i).toNat)
          case atStart => exact ⟨0, Nat.zero_le _, rfl, HR2⟩
          case round =>
            obtain ⟨k3, hk, rfl, HR3⟩ := hrel
            obtain ⟨u3, rfl⟩ : ∃ wo : World, wo = wr := ⟨_, rfl⟩
            by_cases hlt : k3 < n3
            · skip
              have HLT3 := Lib.hid hlt
              have hki3 : (k3 : Int) < (n3 : Int) := by omega
              obtain ⟨b3, o3, rfl, hx⟩ := HE3.out (by omega)
              obtain ⟨l, _, ⟨s3, za, zn, zc, v4, rfl, hv4⟩, hcell⟩ := hx k3 hlt
              obtain ⟨a4, n4, x4, rfl, hn4, he4⟩ := els_of hv4
              have HE4 := Lib.hid he4
              have e0 := HR3.out.cell (hcell 0 _ rfl)
              have e1 := HR3.out.cell (hcell 1 _ rfl)
              have e2 := HR3.out.cell (hcell 2 _ rfl)
              rw [Nat.add_zero] at e0
              have hbe := cell_lt e0
              clear hx hcell hv4 he4 hlt
              have HAB3 := Lib.hid (more_allocD u3 (.cells #[.string s3, .slice za zn zc, .slice a4 n4 x4] 126))
              have HBX := Lib.hid (alloc_last u3 (.cells #[.string s3, .slice za zn zc, .slice a4 n4 x4] 126))
              go_upto_region 12 with fail
              generalize u3.alloc (.cells #[.string s3, .slice za zn zc, .slice a4 n4 x4] 126) = q3 at *
              have f2 : q3.cell? ⟨u3.heap.size, 2, none⟩ = some (.slice a4 n4 x4) := by simp [World.cell?, HBX.out]
              have hbf := cell_lt f2
              have HQ3 := Lib.hid (more_trans HR3.out HAB3.out)
              clear e0 e1 e2 hbe
              go_wp2_with fail
              clear f2 hbf
              go_loopw [52] (fun i wr => ∃ k : Nat, k ≤ n4 ∧ i = .int .i64 (k : Int) ∧ Hid (More w3 wr)) (fun i _ => n4 - (intOf i).toNat)
              case atStart => exact ⟨0, Nat.zero_le _, rfl, HQ3⟩
              case round =>
                obtain ⟨k4, hk, rfl, HR4⟩ := hrel
                obtain ⟨u4, rfl⟩ : ∃ wo : World, wo = wr := ⟨_, rfl⟩
                by_cases hlt : k4 < n4
                · skip
                  have HLT4 := Lib.hid hlt
                  have hki4 : (k4 : Int) < (n4 : Int) := by omega
                  obtain ⟨b4, o4, rfl, hx⟩ := HE4.out (by omega)
                  obtain ⟨l, _, hst, hcell⟩ := hx k4 hlt
                  obtain ⟨op4, sa4, sb4, c4, t4, e4, ts, rfl, hrp, hfo, hfls, ⟨ta1, ta2, ta3, rfl⟩, ⟨ea1, ea2, ea3, rfl⟩, htl⟩ := hst
                  obtain ⟨a5, x5, rfl⟩ := hrp.shape
                  have HRP := Lib.hid hrp
                  have HFO := Lib.hid hfo
                  have HFS := Lib.hid hfls
                  have e0 := HR4.out.cell (hcell 0 _ rfl)
                  have e1 := HR4.out.cell (hcell 1 _ rfl)
                  have e2 := HR4.out.cell (hcell 2 _ rfl)
                  have e3 := HR4.out.cell (hcell 3 _ rfl)
                  have e4 := HR4.out.cell (hcell 4 _ rfl)
                  have e5 := HR4.out.cell (hcell 5 _ rfl)
                  rw [Nat.add_zero] at e0
                  have hbe := cell_lt e0
                  clear hx hcell hrp hfo hfls hlt
                  obtain ⟨n5, HN5⟩ : ∃ n, Hid (ts.length = n) := ⟨_, Lib.hid rfl⟩
                  rw [HN5.out] at htl HRP e3
                  have HAB4 := Lib.hid (more_allocD u4 (.cells #[.int .i64 op4, .string sa4, .string sb4, .slice a5 n5 x5, .slice ta1 ta2 ta3, .slice ea1 ea2 ea3] 128))
                  have HBX := Lib.hid (alloc_last u4 (.cells #[.int .i64 op4, .string sa4, .string sb4, .slice a5 n5 x5, .slice ta1 ta2 ta3, .slice ea1 ea2 ea3] 128))
                  go_upto_region 15 with fail
                  generalize u4.alloc (.cells #[.int .i64 op4, .string sa4, .string sb4, .slice a5 n5 x5, .slice ta1 ta2 ta3, .slice ea1 ea2 ea3] 128) = q4 at *
                  have f2 : q4.cell? ⟨u4.heap.size, 3, none⟩ = some (.slice a5 n5 x5) := by simp [World.cell?, HBX.out]
                  have hbf := cell_lt f2
                  have HQ4 := Lib.hid (more_trans HR4.out HAB4.out)
                  clear e0 e1 e2 e3 e4 e5 hbe
                  go_wp2_with fail
                  clear f2 hbf
                  go_loopw [59] (fun i wr => ∃ k : Nat, k ≤ n5 ∧ i = .int .i64 (k : Int) ∧ Hid (More w3 wr)) (fun i _ => n5 - (intOf i).toNat)
                  case atStart => exact ⟨0, Nat.zero_le _, rfl, HQ4⟩
                  case round =>
                    obtain ⟨k5, hk, rfl, HR5⟩ := hrel
                    obtain ⟨u5, rfl⟩ : ∃ wo : World, wo = wr := ⟨_, rfl⟩
                    by_cases hlt : k5 < n5
                    · skip
                      have HLT5 := Lib.hid hlt
                      have hki5 : (k5 : Int) < (n5 : Int) := by omega
                      obtain ⟨d6, b5, o5, hd6, hba, hle5, _, hx⟩ := HRP.out.at (by intro e; rw [e] at HN5; have := HN5.out; simp at this; omega)
                      subst hba
                      clear hle5
                      have hlp : k5 < ts.length := by rw [HN5.out]; exact hlt
                      obtain ⟨e0, e1, e2, hfl, c6, e3, hr6⟩ := hx k5 hlp
                      have hd7 : d6 = 6 := by omega
                      subst hd7
                      have HFM := Lib.hid (HFO.out _ (List.getElem_mem hlp))
                      generalize ts[k5] = t at *
                      obtain ⟨a6, x6, rfl⟩ := hr6.shape
                      have HFL := Lib.hid hfl
                      have HR6 := Lib.hid hr6
                      have e0 := HR5.out.cell e0
                      have e1 := HR5.out.cell e1
                      have e2 := HR5.out.cell e2
                      have e3 := HR5.out.cell e3
                      have hbe := cell_lt e0
                      obtain ⟨m6, HM6⟩ : ∃ m, Hid (t.args.length = m) := ⟨_, Lib.hid rfl⟩
                      rw [HM6.out] at e3 HR6
                      clear hx hfl hr6 hlp hlt hd6
                      have HAB5 := Lib.hid (more_allocD u5 (.cells #[.int .i64 t.op, .string t.name, .int .i64 t.n, .slice a6 m6 x6] 36))
                      have HBX5 := Lib.hid (alloc_last u5 (.cells #[.int .i64 t.op, .string t.name, .int .i64 t.n, .slice a6 m6 x6] 36))
                      go_upto_region 18 with fail
                      generalize u5.alloc (.cells #[.int .i64 t.op, .string t.name, .int .i64 t.n, .slice a6 m6 x6] 36) = q5 at *
                      have f0 : q5.cell? ⟨u5.heap.size, 0, none⟩ = some (.int .i64 t.op) := by simp [World.cell?, HBX5.out]
                      have f1 : q5.cell? ⟨u5.heap.size, 1, none⟩ = some (.string t.name) := by simp [World.cell?, HBX5.out]
                      have f2 : q5.cell? ⟨u5.heap.size, 2, none⟩ = some (.int .i64 t.n) := by simp [World.cell?, HBX5.out]
                      have f3 : q5.cell? ⟨u5.heap.size, 3, none⟩ = some (.slice a6 m6 x6) := by simp [World.cell?, HBX5.out]
                      have hbf := cell_lt f0
                      have HQ5 := Lib.hid (more_trans HR5.out HAB5.out)
                      clear e0 e1 e2 e3 hbe
                      have HCV := Lib.hid (conv_any 6 (fun _ => True) t (.slice a6 m6 x6) q5 HFL.out (HR6.out.mono (fun _ _ => trivial) (fun _ _ _ _ hc => HQ5.out.cell hc) (Nat.le_refl _)))
                      unfold agg at HCV
                      go_wp2_with fail
                      refine HCV.out.mono ?_
                      rintro e w4 ⟨hb4, c4, rfl, hr4⟩
                      obtain ⟨a4', x4', rfl⟩ := hr4.shape
                      have HM4 := Lib.hid (more_trans HQ5.out (more_of hb4))
                      have HR4' := Lib.hid hr4
                      rw [HM6.out] at HR4'
                      clear hb4 hr4 f0 f1 f2 f3 hbf HCV
                      rw [HM6.out]
                      have HFU := Lib.hid (show Flds .u8 t from ⟨HFL.out.op, HFL.out.n, HFL.out.name, HFL.out.len⟩)
                      have HX5 := Lib.hid (alloc_last w4 (.cells #[.int .u8 t.op, .string t.name, .int .i64 t.n, .slice a4' m6 x4'] 41))
                      have HM5 := Lib.hid (more_allocD w4 (.cells #[.int .u8 t.op, .string t.name, .int .i64 t.n, .slice a4' m6 x4'] 41))
                      obtain ⟨XB, HXE⟩ : ∃ B, Hid (B = w4.heap.size) := ⟨_, Lib.hid rfl⟩
                      rw [← HXE.out] at HX5
                      go_upto_region 19 with fail
                      try rw [← HXE.out]
                      generalize w4.alloc (.cells #[.int .u8 t.op, .string t.name, .int .i64 t.n, .slice a4' m6 x4'] 41) = w5 at *
                      have HW5 := Lib.hid (more_trans HM4.out HM5.out)
                      have HRR := Lib.hid (show RepS .u8 (fun x => x < w5.heap.size) w5 6 t.args (.slice a4' m6 x4') from HR4'.out.mono2 (fun b o u _ hc => ⟨cell_lt (HM5.out.cell hc), HM5.out.cell hc⟩) (Nat.le_refl _))
                      have s0 : w5.cell? ⟨XB, 0, none⟩ = some (.int .u8 t.op) := by simp [World.cell?, HX5.out]
                      have s1 : w5.cell? ⟨XB, 1, none⟩ = some (.string t.name) := by simp [World.cell?, HX5.out]
                      have s2 : w5.cell? ⟨XB, 2, none⟩ = some (.int .i64 t.n) := by simp [World.cell?, HX5.out]
                      have s3 : w5.cell? ⟨XB, 3, none⟩ = some (.slice a4' m6 x4') := by simp [World.cell?, HX5.out]
                      have hbx := cell_lt s0
                      have HNA := Lib.hid (show (nms false t).length ≤ 1000 from by have h := nms_small (k := false) 6 t _ HFM.out HR6.out; have h2 : 2 ^ (6 + 1) = 128 := rfl; omega)
                      have HNB := Lib.hid (show (nms true t).length ≤ 1000 from by have h := nms_small (k := true) 6 t _ HFM.out HR6.out; have h2 : 2 ^ (6 + 1) = 128 := rfl; omega)
                      have HRD := Lib.hid (readsN_any (fun x => x < w5.heap.size) 6 t (.slice a4' m6 x4') w5 HFU.out HRR.out (fun _ h => h) HNA.out HNB.out)
                      unfold agg at HRD
                      go_wp2_with fail
                      refine HRD.out.mono ?_
                      rintro e w6 ⟨hm6, na, nc, ta, tc, hz1, hz2, rfl, hn6, ht6⟩
                      have HM6' := Lib.hid hm6
                      have HZ1 := Lib.hid hz1
                      have HW6 := Lib.hid (more_trans HW5.out HM6'.out)
                      have HX6 := Lib.hid ((HM6'.out.block (blk_ltD HX5.out)).trans HX5.out)
                      have HRU := Lib.hid (show RepS .u8 (fun _ => True) w6 6 t.args (.slice a4' m6 x4') from HRR.out.mono (fun _ _ => trivial) (fun _ _ _ _ hc => HM6'.out.cell hc) (Nat.le_refl _))
                      have HN6 := Lib.hid hn6
                      have HT6 := Lib.hid ht6
                      clear hm6 hz1 hz2 hn6 ht6 HRD s0 s1 s2 s3 hbx
                      have HLA := Lib.hid (show (setS (nms false t)).length ≤ 1000 by have := setS_len (nms false t); have := HNA.out; omega)
                      have HLB := Lib.hid (show (setS (nms true t)).length ≤ 1000 by have := setS_len (nms true t); have := HNB.out; omega)
                      have HIA := Lib.hid (show ∀ x ∈ nms false t, x ∈ setS (nms false t) from fun x hx => (setS_mem _ _).2 hx)
                      have HIB := Lib.hid (show ∀ x ∈ nms true t, x ∈ setS (nms true t) from fun x hx => (setS_mem _ _).2 hx)
                      have HTA := Lib.hid (show ∀ x ∈ setS (nms false t), x.size ≤ maxLen from fun x hx => nms_text 6 t _ HFU.out HRU.out x ((setS_mem _ _).1 hx))
                      have HTB := Lib.hid (show ∀ x ∈ setS (nms true t), x.size ≤ maxLen from fun x hx => nms_text 6 t _ HFU.out HRU.out x ((setS_mem _ _).1 hx))
                      have HND := Lib.hid (setS_nodup (nms false t))
                      generalize setS (nms false t) = PA at *
                      generalize setS (nms true t) = PB' at *
                      obtain ⟨pn, HPN⟩ : ∃ n, Hid (PA.length = n) := ⟨_, Lib.hid rfl⟩
                      obtain ⟨qn', HQN⟩ : ∃ n, Hid (PB'.length = n) := ⟨_, Lib.hid rfl⟩
                      rw [HPN.out] at HN6 HLA ⊢
                      rw [HQN.out] at HT6 HLB ⊢
                      have HE0 := Lib.hid (alloc_last w6 (.cells #[.slice na pn nc, .slice none 0 0, .slice ta qn' tc, .slice none 0 0, .int .i64 vn] 97))
                      have HM7 := Lib.hid (more_allocD w6 (.cells #[.slice na pn nc, .slice none 0 0, .slice ta qn' tc, .slice none 0 0, .int .i64 vn] 97))
                      obtain ⟨EB, HEB⟩ : ∃ EB, Hid (EB = w6.heap.size) := ⟨_, Lib.hid rfl⟩
                      rw [← HEB.out] at HE0
                      go_upto_region 21 with fail
                      try rw [← HEB.out]
                      generalize w6.alloc (.cells #[.slice na pn nc, .slice none 0 0, .slice ta qn' tc, .slice none 0 0, .int .i64 vn] 97) = w7 at *
                      have HEL := Lib.hid (show EB < w7.heap.size from blk_ltD HE0.out)
                      have HW7 := Lib.hid (more_trans HW6.out HM7.out)
                      obtain ⟨j0, hj0, hy0, hy1, hy2⟩ := info_parts Try.info2
                      obtain ⟨k0, hk0, hx0, hx1, hx2⟩ := info_parts Try.info54
                      have hpn := HLA.out
                      skip
                      go_wp2_with fail
                      go_loopw [76] (fun i wr => ∃ (j : Nat) (va : Option Addr) (vc : Nat), j ≤ pn ∧ i = .int .i64 (j : Int) ∧ Hid (w7.grownBy wr (some EB)) ∧ Hid (wr.heap[EB]? = some (.cells #[.slice na pn nc, .slice va j vc, .slice ta qn' tc, .slice none 0 0, .int .i64 vn] 97)) ∧ Hid (wr.ownsRow w7.heap.size 2 1 (.slice va j vc) j ((valsR vn j).map (.int .i64)))) (fun i _ => pn - (intOf i).toNat)
                      case atStart => exact ⟨0, none, 0, Nat.zero_le _, rfl, Lib.hid ⟨rfl, rfl, rfl, Nat.le_refl _, fun _ _ _ => rfl⟩, HE0, Lib.hid (World.ownsRow_nil _ _ _ _)⟩
                      case round =>
                        obtain ⟨j, va, vc, hj, rfl, HG, HBX, HO⟩ := hrel
                        obtain ⟨wo, rfl⟩ : ∃ wo : World, wo = wr := ⟨_, rfl⟩
                        by_cases hlt : j < pn
                        · skip
                          have HLT := Lib.hid hlt
                          have hji : (j : Int) < (pn : Int) := by omega
                          have hpn2 := HLA.out
                          obtain ⟨xv, HXV⟩ : ∃ x, Hid (IntKind.i64.wrap ((j : Int) + vn) = x) := ⟨_, Lib.hid rfl⟩
                          have hxv := HXV.out
                          go_upto_region 24 with fail
                          have HAL := Lib.hid (more_allocD wo (.cells #[.int .i64 xv] 2))
                          have HLL := Lib.hid (alloc_last wo (.cells #[.int .i64 xv] 2))
                          have HOX := Lib.hid (owns_keep (w' := wo.alloc (.cells #[.int .i64 xv] 2)) HO.out (fun z hz => HAL.out.block (HO.out.lt z hz).2))
                          have c1 : wo.cell? ⟨EB, 1, none⟩ = some (.slice va j vc) := by simp [World.cell?, HBX.out]
                          have hbc := cell_lt c1
                          have hm9 : j + 1 ≤ maxLen := by unfold maxLen; omega
                          have hm8 : (j + 1) * 8 ≤ 140737488355328 := by omega
                          have hbs : w7.heap.size ≤ (wo.alloc (.cells #[.int .i64 xv] 2)).heap.size := by have h1 := HG.out.size; have h2 := HAL.out.size; omega
                          have HNS := Lib.hid (fun (w2 : World) (gg cap2 : Nat) (h1 : w2.ownsRow w7.heap.size 2 1 (.slice (some ⟨gg, 0, none⟩) (j + 1) cap2) (j + 1) ((valsR vn j).map (.int .i64) ++ [.int .i64 xv])) (h2 : (wo.alloc (.cells #[.int .i64 xv] 2)).grownBy w2 (Value.slice va j vc).ownBlock) =>
                            show w2.heap[EB]? = some (.cells #[.slice na pn nc, .slice va j vc, .slice ta qn' tc, .slice none 0 0, .int .i64 vn] 97) ∧ w7.grownBy w2 (some EB) from
                              ⟨(h2.block EB (by have h4 := blk_ltD HBX.out; have h5 := HAL.out.size; omega) (fun e => by have h4 := (HO.out.lt EB e.symm).1; have h5 := HEL.out; omega)).trans ((HAL.out.block (blk_ltD HBX.out)).trans HBX.out), grow_own (grow_trans HG.out (grow_more HAL.out)) h2 (fun z hz => (HO.out.lt z hz).1)⟩)
                          go_wp2_with (at_builtin; refine wpList_append_lies _ rfl _ _ _ rfl w7.heap.size 2 j0 _ 1 8 Try.underlying73 hj0 hy0 hy1 hy2 rfl (by omega) (.slice va j vc) j ((valsR vn j).map (.int .i64)) rfl HOX.out ⟨wo.heap.size, 0, none⟩ 1 1 [.int .i64 xv] rfl rfl (World.news_of_block (cs := #[.int .i64 xv]) (t := 2) (fr := (0, 0)) HLL.out) (by simp [Value.oneCell']) (by omega) hm9 hm8 hbs _ rfl ?_; intro gg cap2 w2 hown2 hgrow2 hat2 hlt2; have HNX := Lib.hid (HNS.out w2 gg cap2 hown2 hgrow2); have HON := Lib.hid hown2; clear hown2 hgrow2 hat2; obtain ⟨ra, rn, rc, HQ⟩ : ∃ ra rn rc, Hid (Value.slice ra rn rc = Value.slice (some ⟨gg, 0, none⟩) (j + 1) cap2) := ⟨_, _, _, Lib.hid rfl⟩; rw [← HQ.out] at HON; rw [← HQ.out]; have g1 : w2.cell? ⟨EB, 1, none⟩ = some (.slice va j vc) := (by simp [World.cell?, HNX.out.1]); have fz := thaw HNX.out.1 1; have hbc2 := cell_lt g1; have hlt9 := HLT.out; have hpn3 := HLA.out; have hji9 : (j : Int) < (pn : Int) := (by omega))
                          clear c1 hbc
                          go_roundw
                          case rel => (have e := HQ.out; injection e with _ e2 _; subst e2; exact ⟨j + 1, ra, rc, by have := HLT.out; omega, by go_num, Lib.hid (grow_trans HNX.out.2 (set1_grown w2 EB 1 (.slice ra (j + 1) rc))), Lib.hid (setCell_heapD (o := 1) (v := .slice ra (j + 1) rc) HNX.out.1), Lib.hid (by rw [valsR_succ, List.map_append, HXV.out]; exact owns_keep HON.out (fun z hz => Below.heap_setCell _ _ _ _ (show z ≠ EB from by have := (HON.out.lt z hz).1; have := HEL.out; omega)))⟩)
                          case measure => have := HLT.out; simp [intOf]; omega
                        · have hkn : pn = j := by omega
                          subst hkn
                          have HG8 := HG
                          have HE8 := HBX
                          have HO8 := HO
                          clear HG HBX HO hj hlt
                          obtain ⟨w8, rfl⟩ : ∃ w : World, w = wo := ⟨_, rfl⟩
                          have HW8 := Lib.hid (more_own HW7.out HG8.out (show w3.heap.size ≤ EB from by rw [HEB.out]; exact HW6.out.size))
                          have HEL8 := Lib.hid (show EB < w8.heap.size from blk_ltD HE8.out)
                          go_wp2_with fail
                          go_loopw [90] (fun i wr => ∃ (m : Nat) (ba : Option Addr) (bc : Nat) (bs : List Value), m ≤ qn' ∧ i = .int .i64 (m : Int) ∧ Hid (bs.length = m) ∧ Hid (TabsC w8 wr EB #[.slice na pn nc, .slice va pn vc, .slice ta qn' tc, .slice none 0 0, .int .i64 vn] (.slice ba m bc) bs (tabsR vn m))) (fun i _ => qn' - (intOf i).toNat)
                          case atStart => exact ⟨0, none, 0, [], Nat.zero_le _, rfl, Lib.hid rfl, Lib.hid (TabsC.start HE8.out)⟩
                          case round =>
                            obtain ⟨m, ba, bc, bs, hm, rfl, HBL, HT⟩ := hrel
                            obtain ⟨wo, rfl⟩ : ∃ wo : World, wo = wr := ⟨_, rfl⟩
                            by_cases hlt : m < qn'
                            · skip
                              have HLT := Lib.hid hlt
                              have hmi : (m : Int) < (qn' : Int) := by omega
                              have hqn := HLB.out
                              go_upto_region 29 with fail
                              have HDR := Lib.hid (more_drew wo)
                              refine wp_region_heldP (S := fun W => W.cell? ⟨EB, 3, none⟩ = some (.slice ba m bc)) 10 (by kernel_rfl) ?_
                              generalize wo.drew = w90 at *
                              have HT9 := Lib.hid (HT.out.more HDR.out)
                              have HK9 := Lib.hid (show w90.cell? ⟨EB, 3, none⟩ = some (.slice ba m bc) from by simp [World.cell?, HT9.out.box])
                              have hs1 := cell_lt HK9.out
                              refine tkS (i := 0) (v := ?_) (by simp only [opA, op0]; exact rfl) (by kernel_rfl) (by kernel_rfl) HK9.out ?_ ?_
                              rotate_left
                              · intro w hS
                                (try dsimp only at hS); first | (go_simp; done) | (go_simp; with_reducible rfl)
                              (try simp only [ptS, stA, st0, stS])
                              refine tkS (i := 1) (v := ?_) (by simp only [opA, opS, op0]; exact rfl) (by kernel_rfl) (by kernel_rfl) HK9.out ?_ ?_
                              rotate_left
                              · intro w hS
                                (try dsimp only at hS); first | (go_simp; done) | (go_simp; with_reducible rfl)
                              (try simp only [ptS, stA, st0, stS])
                              refine tkS (i := 2) (v := ?_) (by simp only [opA, opS, op0]; exact rfl) (by kernel_rfl) (by kernel_rfl) HK9.out ?_ ?_
                              rotate_left
                              · intro w hS
                                (try dsimp only at hS); first | (go_simp; done) | (go_simp; with_reducible rfl)
                              (try simp only [ptS, stA, st0, stS])
                              refine tkS (i := 3) (v := ?_) (by simp only [opA, opS, op0]; exact rfl) (by kernel_rfl) (by kernel_rfl) HK9.out ?_ ?_
                              rotate_left
                              · intro w hS
                                (try dsimp only at hS); first | (go_simp; done) | (go_simp; with_reducible rfl)
                              (try simp only [ptS, stA, st0, stS])
                              refine tkS (i := 4) (v := ?_) (by simp only [opA, opS, op0]; exact rfl) (by kernel_rfl) (by kernel_rfl) HK9.out ?_ ?_
                              rotate_left
                              · intro w hS
                                (try dsimp only at hS); first | (go_simp; done) | (go_simp; with_reducible rfl)
                              (try simp only [ptS, stA, st0, stS])
                              refine wpAnyP_ready (rs := [5]) (by kernel_rfl) (by simp) ?_
                              refine (AllReadyP.cons (by simp only [opA, opS, op0]; exact rfl) (fun K hK => ?_) AllReadyP.nil)
                              rw [if_pos (by kernel_rfl)]
                              have HA91 := Lib.hid (more_allocD w90 (.cells #[.int .i64 (m : Int), .int .i64 vn] 66))
                              have HL91 := Lib.hid (alloc_last w90 (.cells #[.int .i64 (m : Int), .int .i64 vn] 66))
                              obtain ⟨L1, HL1E⟩ : ∃ B, Hid (B = w90.heap.size) := ⟨_, Lib.hid rfl⟩
                              go_simp
                              rw [← HL1E.out] at HL91
                              try rw [← HL1E.out]
                              generalize w90.alloc (.cells #[.int .i64 (m : Int), .int .i64 vn] 66) = w91 at *
                              have HT91 := Lib.hid (HT9.out.more HA91.out)
                              have HK91 := Lib.hid (HA91.out.cell HK9.out)
                              refine hK.out _ _ (fun _ => HK91.out) ?_
                              clear hK K
                              (try simp only [ptS, stA, st0, stS])
                              refine wpAnyP_ready (rs := [6]) (by kernel_rfl) (by simp) ?_
                              refine (AllReadyP.cons (by simp only [opA, opS, op0]; exact rfl) (fun K hK => ?_) AllReadyP.nil)
                              rw [if_pos (by kernel_rfl)]
                              have HC1 := Lib.hid (of_any (fun _ => True) [((m : Int), vn)] (.slice (some ⟨L1, 0, none⟩) 1 1) w91 (by simp) (row_lit (n := 1) HL91.out rfl))
                              go_simp
                              refine HC1.out.mono ?_
                              rintro e w92 ⟨hb, tv, rfl, hrt⟩
                              have HX92 := Lib.hid (more_of hb)
                              have HRT := Lib.hid hrt
                              have HT92 := Lib.hid (HT91.out.more HX92.out)
                              have HK92 := Lib.hid (HX92.out.cell HK91.out)
                              obtain ⟨tva, tvc, rfl, _⟩ := hrt.shape
                              skip
                              clear hb hrt HC1
                              try go_wp2_with fail
                              refine hK.out _ _ (fun _ => HK92.out) ?_
                              clear hK K
                              (try simp only [ptS, stA, st0, stS])
                              refine wpAnyP_ready (rs := [7]) (by kernel_rfl) (by simp) ?_
                              refine (AllReadyP.cons (by simp only [opA, opS, op0]; exact rfl) (fun K hK => ?_) AllReadyP.nil)
                              rw [if_pos (by kernel_rfl)]
                              have HA93 := Lib.hid (more_allocD w92 (.cells #[.slice tva (ofL [((m : Int), vn)]).length tvc] 54))
                              have HL93 := Lib.hid (alloc_last w92 (.cells #[.slice tva (ofL [((m : Int), vn)]).length tvc] 54))
                              obtain ⟨L2, HL2E⟩ : ∃ B, Hid (B = w92.heap.size) := ⟨_, Lib.hid rfl⟩
                              go_simp
                              rw [← HL2E.out] at HL93
                              try rw [← HL2E.out]
                              generalize w92.alloc (.cells #[.slice tva (ofL [((m : Int), vn)]).length tvc] 54) = w93 at *
                              have HT93 := Lib.hid (HT92.out.more HA93.out)
                              have HK93 := Lib.hid (HA93.out.cell HK92.out)
                              refine hK.out _ _ (fun _ => HK93.out) ?_
                              clear hK K
                              (try simp only [ptS, stA, st0, stS])
                              refine wpAnyP_ready (rs := [8]) (by kernel_rfl) (by simp) ?_
                              refine (AllReadyP.cons (by simp only [opA, opS, op0]; exact rfl) (fun K hK => ?_) AllReadyP.nil)
                              have hox := HT93.out.own
                              rw [HBL.out] at hox
                              have hbs : w8.heap.size ≤ w93.heap.size := HT93.out.g.size
                              have hm9 : m + 1 ≤ maxLen := by have h1 := HLT.out; have h2 := HLB.out; unfold maxLen; omega
                              have hm8 : (m + 1) * 24 ≤ 140737488355328 := by have h1 := HLT.out; have h2 := HLB.out; omega
                              refine step_append_lies _ (by rfl) _ _ _ (by rfl) w8.heap.size 54 k0 _ 1 24 Try.underlying47 hk0 hx0 hx1 hx2 rfl (by omega) (.slice ba m bc) m bs (by rfl) hox ⟨L2, 0, none⟩ 1 1 [.slice tva (ofL [((m : Int), vn)]).length tvc] (by rfl) (by rfl) (World.news_of_block (cs := #[.slice tva (ofL [((m : Int), vn)]).length tvc]) (t := 54) (fr := (0, 0)) HL93.out) (by simp [Value.oneCell']) (by omega) hm9 hm8 hbs w93.heap.size (by rfl) ?_
                              intro gg cap2 w94 hown hgrow hat _
                              have HTP := HT93.out.push (nv := .slice (some ⟨gg, 0, none⟩) (m + 1) cap2) (u := .slice tva (ofL [((m : Int), vn)]).length tvc) (T := ofL [((m : Int), vn)]) HEL8.out hgrow (by rw [HBL.out]) hat (by rw [HBL.out]; exact hown) (HRT.out.mono2 (by omega) (fun b off y hb hc => ⟨⟨by have h9 : w91.heap.size ≤ b := hb; have h1 := HT91.out.g.size; omega, by have h1 := cell_lt (HA93.out.cell hc); exact h1, fun e => by have h9 : w91.heap.size ≤ b := hb; have h1 := (HT91.out.own.lt b e).2; omega⟩, HA93.out.cell hc⟩))
                              rw [← tabsR_succ] at HTP
                              obtain ⟨ra, rn, rc, HQ⟩ : ∃ ra rn rc, Hid (Value.slice ra rn rc = Value.slice (some ⟨gg, 0, none⟩) (m + 1) cap2) := ⟨_, _, _, Lib.hid rfl⟩
                              rw [← HQ.out] at HTP
                              rw [← HQ.out]
                              have HTN := Lib.hid HTP
                              have HB94 := Lib.hid (show w94.heap[EB]? = _ from (hgrow.block EB (blk_ltD HT93.out.box) (fun e => by have h1 := (hox.lt EB e.symm).1; have := HEL8.out; omega)).trans HT93.out.box)
                              have HK94 := Lib.hid (show w94.cell? ⟨EB, 3, none⟩ = some (.slice ba m bc) from by simp [World.cell?, HB94.out])
                              clear hown hgrow hat hox HTP
                              refine hK.out _ _ (fun _ => HK94.out) ?_
                              clear hK K
                              (try simp only [ptS, stA, st0, stS])
                              refine tkS (i := 9) (v := ?_) (by simp only [opA, opS, op0]; exact rfl) (by kernel_rfl) (by kernel_rfl) HK94.out ?_ ?_
                              rotate_left
                              · intro w hS
                                (try dsimp only at hS); first | (go_simp; done) | (go_simp; with_reducible rfl)
                              (try simp only [ptS, stA, st0, stS])
                              refine wpAnyP_ready (rs := [10]) (by kernel_rfl) (by simp) ?_
                              refine (AllReadyP.cons (by simp only [opA, opS, op0]; exact rfl) (fun K hK => ?_) AllReadyP.nil)
                              rw [if_pos (by kernel_rfl)]
                              have g1 := HK94.out
                              have fz := thaw HB94.out 3
                              have hbc2 := cell_lt g1
                              go_simp
                              refine hK.out _ _ (gone (by kernel_rfl)) ?_
                              clear hK K
                              (try simp only [ptN])
                              refine wpAnyP_done (by kernel_rfl) ?_ _
                              clear hs1 g1 fz hbc2
                              have hlt9 := HLT.out
                              have hqn9 := HLB.out
                              have hmi9 : (m : Int) < (qn' : Int) := by omega
                              go_wp2_with fail
                              go_roundw
                              case rel => (have e := HQ.out; injection e with _ e2 _; subst e2; exact ⟨m + 1, ra, rc, bs ++ [.slice tva (ofL [((m : Int), vn)]).length tvc], by have := HLT.out; omega, by go_num, Lib.hid (by rw [List.length_append, HBL.out]; rfl), HTN⟩)
                              case measure => have := HLT.out; simp [intOf]; omega
                            · have hkn : qn' = m := by omega
                              subst hkn
                              have HT9 := HT
                              clear HT hm hlt
                              obtain ⟨w9, rfl⟩ : ∃ w : World, w = wo := ⟨_, rfl⟩
                              have HE9 := Lib.hid (show w9.heap[EB]? = some (.cells #[.slice na pn nc, .slice va pn vc, .slice ta qn' tc, .slice ba qn' bc, .int .i64 vn] 97) from HT9.out.box)
                              have HW9 := Lib.hid (more_own HW8.out HT9.out.g (show w3.heap.size ≤ EB from by rw [HEB.out]; exact HW6.out.size))
                              have HEL9 := Lib.hid (show EB < w9.heap.size from blk_ltD HE9.out)
                              have HTR := Lib.hid (show ∀ b off u, w6.cell? ⟨b, off, none⟩ = some u → w9.cell? ⟨b, off, none⟩ = some u from fun b off u hc => cell_grown (show b ≠ EB from by have := cell_lt hc; have := HEB.out; omega) HT9.out.g (cell_grown (show b ≠ EB from by have := cell_lt hc; have := HEB.out; omega) HG8.out (HM7.out.cell hc)))
                              have HN9 := Lib.hid (show Row (fun _ => True) w9 1 pn (.slice na pn nc) (PA.map .string) from HN6.out.mono (fun _ k => k) (fun b off u _ hc => HTR.out b off u hc))
                              have HTN9 := Lib.hid (show Row (fun _ => True) w9 1 qn' (.slice ta qn' tc) (PB'.map .string) from HT6.out.mono (fun _ k => k) (fun b off u _ hc => HTR.out b off u hc))
                              have HO9 := Lib.hid (owns_keep (w' := w9) HO8.out (fun z hz => HT9.out.g.block z (HO8.out.lt z hz).2 (fun e => by have h1 := (HO8.out.lt z hz).1; have h2 := HEL.out; injection e with e; omega)))
                              have HX9 := Lib.hid (show w9.heap[XB]? = some (.cells #[.int .u8 t.op, .string t.name, .int .i64 t.n, .slice a4' m6 x4'] 41) from by
                                have h1 : XB < EB := by rw [HEB.out]; exact blk_ltD HX6.out
                                exact (HT9.out.g.block XB (by have := HEL8.out; omega) (fun e => by injection e with e; omega)).trans ((HG8.out.block XB (by have := HEL.out; omega) (fun e => by injection e with e; omega)).trans ((HM7.out.block (blk_ltD HX6.out)).trans HX6.out)))
                              have HRU9 := Lib.hid (show RepS .u8 (fun _ => True) w9 6 t.args (.slice a4' m6 x4') from HRU.out.mono (fun _ k => k) (fun b off u _ hc => HTR.out b off u hc) (Nat.le_refl _))
                              obtain ⟨eA, HEA⟩ : ∃ e : EnvD, Hid (e = ⟨PA, valsR vn pn, PB', tabsR vn qn', vn⟩) := ⟨_, Lib.hid rfl⟩
                              have HSM := Lib.hid (show eA.names.length < 4294967296 ∧ eA.vals.length < 4294967296 ∧ eA.tnames.length < 4294967296 ∧ eA.tabs.length < 4294967296 ∧ ∀ t ∈ eA.tabs, t.length < 4294967296 from by
                                rw [HEA.out]
                                have h1 := HLA.out
                                have h2 := HLB.out
                                exact ⟨by show PA.length < _; rw [HPN.out]; omega, by show (valsR vn pn).length < _; rw [valsR_len]; omega, by show PB'.length < _; rw [HQN.out]; omega, by show (tabsR vn qn').length < _; rw [tabsR_len]; omega, fun T hT => (tabsR_in HV.out h2 T hT).1.1⟩)
                              have HNM := Lib.hid (show In64 eA.now ∧ (∀ v ∈ eA.vals, In64 v) ∧ ∀ t ∈ eA.tabs, ∀ x ∈ t, In64 x.1 ∧ In64 x.2 from by
                                rw [HEA.out]
                                exact ⟨HV.out, valsR_in vn pn, fun T hT => (tabsR_in HV.out HLB.out T hT).2⟩)
                              have HASC := Lib.hid (show ∀ t ∈ eA.tabs, Asc t from by rw [HEA.out]; exact fun T hT => (tabsR_in HV.out HLB.out T hT).1.2)
                              have HPA9 := Lib.hid (show EnvP (fun _ => True) w9 eA (.slice na pn nc) (.slice va pn vc) (.slice ta qn' tc) (.slice ba qn' bc) from by
                                have hs := HSM.out
                                have hn := HNM.out
                                have ha := HASC.out
                                rw [HEA.out] at hs hn ha ⊢
                                refine ⟨⟨by show Row _ _ 1 PA.length _ _; rw [HPN.out]; exact HN9.out, by show Row _ _ 1 (valsR vn pn).length _ _; rw [valsR_len]; exact (Row.of_owns HO9.out).mono (fun _ _ => trivial) (fun _ _ _ _ h => h), by show Row _ _ 1 PB'.length _ _; rw [HQN.out]; exact HTN9.out, ⟨bs, ?_, fun i hi => ?_⟩, hs, hn⟩, ha, HTA.out, HTB.out⟩
                                · show Row _ _ 1 (tabsR vn qn').length _ _
                                  have h := (Row.of_owns HT9.out.own).mono (S' := fun _ => True) (fun _ _ => trivial) (fun _ _ _ _ h => h)
                                  rw [HBL.out] at h
                                  rw [tabsR_len]
                                  exact h
                                · obtain ⟨x, h1, h2⟩ := HT9.out.tr i hi
                                  exact ⟨x, h1, h2.mono (fun _ _ => trivial) (fun _ _ _ _ h => h)⟩)
                              have HEV := Lib.hid (show evalV eA t = (valT eA t, 0) ∧ evalV (revE eA) t = (valT eA t, 0) from evalV_rev (by rw [HEA.out]; show PA.length = (valsR vn pn).length; rw [HPN.out, valsR_len]) (by rw [HEA.out]; show PB'.length = (tabsR vn qn').length; rw [HQN.out, tabsR_len]) (by rw [HEA.out]; exact HND.out) t HFM.out (by rw [HEA.out]; exact HIA.out) (by rw [HEA.out]; exact HIB.out))
                              have HM10 := Lib.hid (more_allocD w9 (.cells #[.slice na pn nc, .slice va pn vc, .slice ta qn' tc, .slice ba qn' bc, .int .i64 vn] 97))
                              have HE10 := Lib.hid (alloc_last w9 (.cells #[.slice na pn nc, .slice va pn vc, .slice ta qn' tc, .slice ba qn' bc, .int .i64 vn] 97))
                              obtain ⟨EC, HEC⟩ : ∃ B, Hid (B = w9.heap.size) := ⟨_, Lib.hid rfl⟩
                              rw [← HEC.out] at HE10
                              have f0 : w9.cell? ⟨EB, 0, none⟩ = some (.slice na pn nc) := by simp [World.cell?, HE9.out]
                              have f1 : w9.cell? ⟨EB, 1, none⟩ = some (.slice va pn vc) := by simp [World.cell?, HE9.out]
                              have f2 : w9.cell? ⟨EB, 2, none⟩ = some (.slice ta qn' tc) := by simp [World.cell?, HE9.out]
                              have f3 : w9.cell? ⟨EB, 3, none⟩ = some (.slice ba qn' bc) := by simp [World.cell?, HE9.out]
                              have f4 : w9.cell? ⟨EB, 4, none⟩ = some (.int .i64 vn) := by simp [World.cell?, HE9.out]
                              have hbf := cell_lt f0
                              go_upto_region 32 with fail
                              try rw [← HEC.out]
                              generalize w9.alloc (.cells #[.slice na pn nc, .slice va pn vc, .slice ta qn' tc, .slice ba qn' bc, .int .i64 vn] 97) = w10 at *
                              clear f0 f1 f2 f3 f4 hbf
                              have HDR := Lib.hid (more_drew w10)
                              have HECE := Lib.hid (show EB < EC from by rw [HEC.out]; exact HEL9.out)
                              refine wp_region_heldP (S := fun W => W.cell? ⟨EB, 0, none⟩ = some (.slice na pn nc) ∧ W.cell? ⟨EB, 1, none⟩ = some (.slice va pn vc)) 9 (by kernel_rfl) ?_
                              generalize w10.drew = w90 at *
                              have HM90 := Lib.hid (more_trans HM10.out HDR.out)
                              have HK90 := Lib.hid (show w90.cell? ⟨EB, 0, none⟩ = some (.slice na pn nc) ∧ w90.cell? ⟨EB, 1, none⟩ = some (.slice va pn vc) from ⟨HM90.out.cell (by simp [World.cell?, HE9.out]), HM90.out.cell (by simp [World.cell?, HE9.out])⟩)
                              have hs1 := cell_lt HK90.out.1
                              have HE90 := Lib.hid ((HDR.out.block (blk_ltD HE10.out)).trans HE10.out)
                              refine tkS (i := 0) (v := ?_) (by simp only [opA, op0]; exact rfl) (by kernel_rfl) (by kernel_rfl) HK90.out ?_ ?_
                              rotate_left
                              · intro w hS
                                (try dsimp only at hS); first | (go_simp; done) | (go_simp; with_reducible rfl)
                              (try simp only [ptS, stA, st0, stS])
                              refine tkS (i := 1) (v := ?_) (by simp only [opA, opS, op0]; exact rfl) (by kernel_rfl) (by kernel_rfl) HK90.out ?_ ?_
                              rotate_left
                              · intro w hS
                                (try dsimp only at hS); first | (go_simp; done) | (go_simp; with_reducible rfl)
                              (try simp only [ptS, stA, st0, stS])
                              refine tkS (i := 3) (v := ?_) (by simp only [opA, opS, op0]; exact rfl) (by kernel_rfl) (by kernel_rfl) HK90.out ?_ ?_
                              rotate_left
                              · intro w hS
                                (try dsimp only at hS); first | (go_simp; done) | (go_simp; with_reducible rfl)
                              (try simp only [ptS, stA, st0, stS])
                              refine tkS (i := 4) (v := ?_) (by simp only [opA, opS, op0]; exact rfl) (by kernel_rfl) (by kernel_rfl) HK90.out ?_ ?_
                              rotate_left
                              · intro w hS
                                (try dsimp only at hS); first | (go_simp; done) | (go_simp; with_reducible rfl)
                              (try simp only [ptS, stA, st0, stS])
                              refine wpAnyP_ready (rs := [2]) (by kernel_rfl) (by simp) ?_
                              refine (AllReadyP.cons (by simp only [opA, opS, op0]; exact rfl) (fun K hK => ?_) AllReadyP.nil)
                              rw [if_pos (by kernel_rfl)]
                              have HC1 := Lib.hid (clone57_any (PA.map .string) (.slice na pn nc) w90 (fun _ => True) (by rw [List.length_map, HPN.out]; have := HLA.out; omega) (by rw [List.length_map, HPN.out]; exact HN9.out.mono (fun _ k => k) (fun b off u _ hc => HM90.out.cell hc)) (fun a n cap e h => by injection e with e1 e2 e3; rw [← e3]; exact HZ1.out (by rw [e1]; exact h)) (ones_str PA))
                              go_simp
                              refine HC1.out.mono ?_
                              rintro e w91 ⟨⟨v1, rfl, ho⟩, hm⟩
                              have HM91 := Lib.hid hm
                              rw [List.length_map, HPN.out] at ho
                              have HO91 := Lib.hid ho
                              obtain ⟨ca1, cc1, rfl, _⟩ := owns_shape ho
                              have HK91 := Lib.hid (show w91.cell? ⟨EB, 0, none⟩ = some (.slice na pn nc) ∧ w91.cell? ⟨EB, 1, none⟩ = some (.slice va pn vc) from ⟨HM91.out.cell HK90.out.1, HM91.out.cell HK90.out.2⟩)
                              have HE91 := Lib.hid ((HM91.out.block (blk_ltD HE90.out)).trans HE90.out)
                              clear ho hm HC1
                              try go_wp2_with fail
                              refine hK.out _ _ (fun _ => HK91.out) ?_
                              clear hK K
                              (try simp only [ptS, stA, st0, stS])
                              refine tkS (i := 6) (v := ?_) (by simp only [opA, opS, op0]; exact rfl) (by kernel_rfl) (by kernel_rfl) HK91.out ?_ ?_
                              rotate_left
                              · intro w hS
                                (try dsimp only at hS); first | (go_simp; done) | (go_simp; with_reducible rfl)
                              (try simp only [ptS, stA, st0, stS])
                              refine wpAnyP_ready (rs := [5]) (by kernel_rfl) (by simp) ?_
                              refine (AllReadyP.cons (by simp only [opA, opS, op0]; exact rfl) (fun K hK => ?_) AllReadyP.nil)
                              rw [if_pos (by kernel_rfl)]
                              have HC1 := Lib.hid (clone58_any ((valsR vn pn).map (.int .i64)) (.slice va pn vc) w91 (fun _ => True) (by rw [List.length_map, valsR_len]; have := HLA.out; omega) (by rw [List.length_map, valsR_len]; exact (Row.of_owns HO9.out).mono (fun _ _ => trivial) (fun b off u _ hc => HM91.out.cell (HM90.out.cell hc))) (owns_nilD HO9.out) (ones_int _))
                              go_simp
                              refine HC1.out.mono ?_
                              rintro e w92 ⟨⟨v2, rfl, ho⟩, hm⟩
                              have HM92 := Lib.hid hm
                              rw [List.length_map, valsR_len] at ho
                              have HO92 := Lib.hid ho
                              obtain ⟨ca2, cc2, rfl, _⟩ := owns_shape ho
                              have HK92 := Lib.hid (show w92.cell? ⟨EB, 0, none⟩ = some (.slice na pn nc) ∧ w92.cell? ⟨EB, 1, none⟩ = some (.slice va pn vc) from ⟨HM92.out.cell HK91.out.1, HM92.out.cell HK91.out.2⟩)
                              have HE92 := Lib.hid ((HM92.out.block (blk_ltD HE91.out)).trans HE91.out)
                              clear ho hm HC1
                              try go_wp2_with fail
                              refine hK.out _ _ (fun _ => HK92.out) ?_
                              clear hK K
                              (try simp only [ptS, stA, st0, stS])
                              refine wpAnyP_ready (rs := [7]) (by kernel_rfl) (by simp) ?_
                              refine (AllReadyP.cons (by simp only [opA, opS, op0]; exact rfl) (fun K hK => ?_) AllReadyP.nil)
                              rw [if_pos (by kernel_rfl)]
                              have g1 : w92.cell? ⟨EC, 0, none⟩ = some (.slice na pn nc) := by simp [World.cell?, HE92.out]
                              have fz1 := thaw HE92.out 0
                              have hbc := cell_lt g1
                              go_simp
                              have HE93 := Lib.hid (setCell_heapD (o := 0) (v := .slice ca1 pn cc1) HE92.out)
                              have hne9 : EB ≠ EC := Nat.ne_of_lt HECE.out
                              have HK93 := Lib.hid (show (w92.setCell ⟨EC, 0, none⟩ (.slice ca1 pn cc1)).cell? ⟨EB, 0, none⟩ = some (.slice na pn nc) ∧ (w92.setCell ⟨EC, 0, none⟩ (.slice ca1 pn cc1)).cell? ⟨EB, 1, none⟩ = some (.slice va pn vc) from ⟨cell_grown (MB := EC) hne9 (set1_grown _ EC 0 _) HK92.out.1, cell_grown (MB := EC) hne9 (set1_grown _ EC 0 _) HK92.out.2⟩)
                              refine hK.out _ _ (fun _ => HK93.out) ?_
                              clear hK K
                              (try simp only [ptN])
                              refine tkS (i := 8) (v := ?_) (by simp only [opA, opS, op0]; exact rfl) (by kernel_rfl) (by kernel_rfl) HK93.out ?_ ?_
                              rotate_left
                              · intro w hS
                                (try dsimp only at hS); first | (go_simp; done) | (go_simp; with_reducible rfl)
                              (try simp only [ptS, stA, st0, stS])
                              refine wpAnyP_ready (rs := [9]) (by kernel_rfl) (by simp) ?_
                              refine (AllReadyP.cons (by simp only [opA, opS, op0]; exact rfl) (fun K hK => ?_) AllReadyP.nil)
                              rw [if_pos (by kernel_rfl)]
                              have g2 : (w92.setCell ⟨EC, 0, none⟩ (.slice ca1 pn cc1)).cell? ⟨EC, 1, none⟩ = some (.slice va pn vc) := by simp [World.cell?, HE93.out]
                              have fz2 := thaw HE93.out 1
                              have hbc2 := cell_lt g2
                              go_simp
                              refine hK.out _ _ (gone (by kernel_rfl)) ?_
                              clear hK K
                              (try simp only [ptN])
                              refine wpAnyP_done (by kernel_rfl) ?_ _
                              have HE94 := Lib.hid (setCell_heapD (o := 1) (v := .slice ca2 pn cc2) HE93.out)
                              have HG94 := Lib.hid (grow_trans (set1_grown w92 EC 0 (.slice ca1 pn cc1)) (set1_grown _ EC 1 (.slice ca2 pn cc2)))
                              have HCB1 := Lib.hid (show ∀ z, (Value.slice ca1 pn cc1).ownBlock = some z → EC < z ∧ z < w91.heap.size from fun z hz => ⟨by have h1 := (HO91.out.lt z hz).1; have h2 := blk_ltD HE90.out; omega, (HO91.out.lt z hz).2⟩)
                              have HCB2 := Lib.hid (show ∀ z, (Value.slice ca2 pn cc2).ownBlock = some z → w91.heap.size ≤ z from fun z hz => (HO92.out.lt z hz).1)
                              have HSZ91 := Lib.hid (show EC < w91.heap.size from blk_ltD HE91.out)
                              clear g1 fz1 hbc g2 fz2 hbc2 hne9 hs1
                              go_upto_region 33 with fail
                              generalize (w92.setCell ⟨EC, 0, none⟩ (.slice ca1 pn cc1)).setCell ⟨EC, 1, none⟩ (.slice ca2 pn cc2) = w94 at *
                              have HO1 := Lib.hid (owns_keep (w' := w94) (owns_keep (w' := w92) HO91.out (fun z hz => HM92.out.block (HO91.out.lt z hz).2)) (fun z hz => HG94.out.block z (by have h1 := (HO91.out.lt z hz).2; have h2 := HM92.out.size; omega) (fun e => by have h1 := (HCB1.out z hz).1; injection e with e; omega)))
                              have HO2 := Lib.hid (owns_keep (w' := w94) HO92.out (fun z hz => HG94.out.block z (HO92.out.lt z hz).2 (fun e => by have h1 := HCB2.out z hz; have h2 := HSZ91.out; injection e with e; omega)))
                              have g0 : w94.cell? ⟨EC, 0, none⟩ = some (.slice ca1 pn cc1) := by simp [World.cell?, HE94.out]
                              have hbc := cell_lt g0
                              have HREV := Lib.hid (rev61_any PA (.slice ca1 pn cc1) _ w94 (by rw [HPN.out]; have := HLA.out; omega) (by rw [HPN.out]; exact HO1.out))
                              go_wp2_with fail
                              refine HREV.out.mono ?_
                              rintro e w95 ⟨rfl, ho, hg⟩
                              rw [HPN.out] at ho
                              have HO1r := Lib.hid ho
                              have HG95 := Lib.hid hg
                              clear ho hg g0 hbc HREV
                              have HE95 := Lib.hid (show w95.heap[EC]? = _ from (HG95.out.block EC (blk_ltD HE94.out) (fun e => by have h1 := (HCB1.out EC e.symm).1; omega)).trans HE94.out)
                              have HO2b := Lib.hid (owns_keep (w' := w95) HO2.out (fun z hz => HG95.out.block z (HO2.out.lt z hz).2 (fun e => by have h1 := (HCB1.out z e.symm).2; have h2 := HCB2.out z hz; omega)))
                              have g0 : w95.cell? ⟨EC, 1, none⟩ = some (.slice ca2 pn cc2) := by simp [World.cell?, HE95.out]
                              have hbc := cell_lt g0
                              have HREV := Lib.hid (rev62_any (valsR vn pn) (.slice ca2 pn cc2) _ w95 (by rw [valsR_len]; have := HLA.out; omega) (by rw [valsR_len]; exact HO2b.out))
                              go_wp2_with fail
                              refine HREV.out.mono ?_
                              rintro e w96 ⟨rfl, ho, hg⟩
                              rw [valsR_len] at ho
                              have HO2r := Lib.hid ho
                              have HG96 := Lib.hid hg
                              clear ho hg g0 hbc HREV
                              have HE96 := Lib.hid (show w96.heap[EC]? = some (.cells #[.slice ca1 pn cc1, .slice ca2 pn cc2, .slice ta qn' tc, .slice ba qn' bc, .int .i64 vn] 97) from (HG96.out.block EC (blk_ltD HE95.out) (fun e => by have h1 := HCB2.out EC e.symm; have h2 := HSZ91.out; omega)).trans HE95.out)
                              have HO1f := Lib.hid (owns_keep (w' := w96) HO1r.out (fun z hz => HG96.out.block z (HO1r.out.lt z hz).2 (fun e => by have h1 := (HCB1.out z hz).2; have h2 := HCB2.out z e.symm; omega)))
                              have HB96 := Lib.hid (show Below w9.heap.size w9 w96 from below_g (below_g (below_g (below_g (below_g (below_g (Below.refl _ w9) HM90.out (fun _ e => by cases e)) HM91.out (fun _ e => by cases e)) HM92.out (fun _ e => by cases e)) HG94.out (fun z e => by injection e with e; rw [← e, HEC.out]; exact Nat.le_refl _)) HG95.out (fun z e => by have h1 := (HCB1.out z e).1; rw [HEC.out] at h1; exact Nat.le_of_lt h1)) HG96.out (fun z e => by have h1 := HCB2.out z e; have h2 := HSZ91.out; rw [HEC.out] at h2; omega))
                              have HW96 := Lib.hid (more_trans HW9.out (more_of HB96.out))
                              have HX96 := Lib.hid ((HB96.out.block XB (blk_ltD HX9.out)).trans HX9.out)
                              have HE96a := Lib.hid ((HB96.out.block EB HEL9.out).trans HE9.out)
                              have s0 : w96.cell? ⟨XB, 0, none⟩ = some (.int .u8 t.op) := by simp [World.cell?, HX96.out]
                              have s1 : w96.cell? ⟨XB, 1, none⟩ = some (.string t.name) := by simp [World.cell?, HX96.out]
                              have s2 : w96.cell? ⟨XB, 2, none⟩ = some (.int .i64 t.n) := by simp [World.cell?, HX96.out]
                              have s3 : w96.cell? ⟨XB, 3, none⟩ = some (.slice a4' m6 x4') := by simp [World.cell?, HX96.out]
                              have f0 : w96.cell? ⟨EB, 0, none⟩ = some (.slice na pn nc) := by simp [World.cell?, HE96a.out]
                              have f1 : w96.cell? ⟨EB, 1, none⟩ = some (.slice va pn vc) := by simp [World.cell?, HE96a.out]
                              have f2 : w96.cell? ⟨EB, 2, none⟩ = some (.slice ta qn' tc) := by simp [World.cell?, HE96a.out]
                              have f3 : w96.cell? ⟨EB, 3, none⟩ = some (.slice ba qn' bc) := by simp [World.cell?, HE96a.out]
                              have f4 : w96.cell? ⟨EB, 4, none⟩ = some (.int .i64 vn) := by simp [World.cell?, HE96a.out]
                              have hbs := cell_lt s0
                              have hbf := cell_lt f0
                              have HEVA := Lib.hid (eval_any 6 (fun _ => True) (fun _ => True) t (.slice a4' m6 x4') eA (.slice na pn nc) (.slice va pn vc) (.slice ta qn' tc) (.slice ba qn' bc) w96 HFU.out (HRU9.out.mono (fun _ k => k) (fun b off u _ hc => (more_of HB96.out).cell hc) (Nat.le_refl _)) (HPA9.out.below HB96.out))
                              rw [HEV.out.1] at HEVA
                              unfold agg aggE at HEVA
                              rw [show eA.now = vn from by rw [HEA.out]] at HEVA
                              generalize valT eA t = V at *
                              go_wp2_with fail
                              refine HEVA.out.mono ?_
                              rintro e w97 ⟨hb, rfl⟩
                              have HB97 := Lib.hid (more_of hb)
                              clear hb HEVA s0 s1 s2 s3 f0 f1 f2 f3 f4 hbs hbf
                              have HX97 := Lib.hid ((HB97.out.block (blk_ltD HX96.out)).trans HX96.out)
                              have HE97 := Lib.hid ((HB97.out.block (blk_ltD HE96.out)).trans HE96.out)
                              have HPB9 := Lib.hid (show EnvP (fun _ => True) w97 (revE eA) (.slice ca1 pn cc1) (.slice ca2 pn cc2) (.slice ta qn' tc) (.slice ba qn' bc) from by
                                have hs := HSM.out
                                have hn := HNM.out
                                have ha := HASC.out
                                have h9 := (HPA9.out.below HB96.out).below HB97.out.below
                                rw [HEA.out] at hs hn ha h9 ⊢
                                refine ⟨⟨?_, ?_, h9.rep.tnames, h9.rep.tabs, ⟨by show PA.reverse.length < _; rw [List.length_reverse]; exact hs.1, by show (valsR vn pn).reverse.length < _; rw [List.length_reverse]; exact hs.2.1, hs.2.2⟩, ⟨hn.1, fun v hv => hn.2.1 v (List.mem_reverse.1 hv), hn.2.2⟩⟩, ha, fun x hx => HTA.out x (List.mem_reverse.1 hx), HTB.out⟩
                                · show Row _ _ 1 PA.reverse.length _ (PA.reverse.map .string)
                                  rw [List.length_reverse, HPN.out, List.map_reverse]
                                  exact (Row.of_owns HO1f.out).mono (fun _ _ => trivial) (fun b off u _ hc => HB97.out.cell hc)
                                · show Row _ _ 1 (valsR vn pn).reverse.length _ ((valsR vn pn).reverse.map (.int .i64))
                                  rw [List.length_reverse, valsR_len, List.map_reverse]
                                  exact (Row.of_owns HO2r.out).mono (fun _ _ => trivial) (fun b off u _ hc => HB97.out.cell hc))
                              have s0 : w97.cell? ⟨XB, 0, none⟩ = some (.int .u8 t.op) := by simp [World.cell?, HX97.out]
                              have s1 : w97.cell? ⟨XB, 1, none⟩ = some (.string t.name) := by simp [World.cell?, HX97.out]
                              have s2 : w97.cell? ⟨XB, 2, none⟩ = some (.int .i64 t.n) := by simp [World.cell?, HX97.out]
                              have s3 : w97.cell? ⟨XB, 3, none⟩ = some (.slice a4' m6 x4') := by simp [World.cell?, HX97.out]
                              have f0 : w97.cell? ⟨EC, 0, none⟩ = some (.slice ca1 pn cc1) := by simp [World.cell?, HE97.out]
                              have f1 : w97.cell? ⟨EC, 1, none⟩ = some (.slice ca2 pn cc2) := by simp [World.cell?, HE97.out]
                              have f2 : w97.cell? ⟨EC, 2, none⟩ = some (.slice ta qn' tc) := by simp [World.cell?, HE97.out]
                              have f3 : w97.cell? ⟨EC, 3, none⟩ = some (.slice ba qn' bc) := by simp [World.cell?, HE97.out]
                              have f4 : w97.cell? ⟨EC, 4, none⟩ = some (.int .i64 vn) := by simp [World.cell?, HE97.out]
                              have hbs := cell_lt s0
                              have hbf := cell_lt f0
                              have HEVB := Lib.hid (eval_any 6 (fun _ => True) (fun _ => True) t (.slice a4' m6 x4') (revE eA) (.slice ca1 pn cc1) (.slice ca2 pn cc2) (.slice ta qn' tc) (.slice ba qn' bc) w97 HFU.out (HRU9.out.mono (fun _ k => k) (fun b off u _ hc => HB97.out.cell ((more_of HB96.out).cell hc)) (Nat.le_refl _)) HPB9.out)
                              rw [HEV.out.2] at HEVB
                              unfold agg aggE at HEVB
                              rw [show (revE eA).now = vn from by rw [HEA.out]; rfl] at HEVB
                              go_wp2_with fail
                              refine HEVB.out.mono ?_
                              rintro e w98 ⟨hb, rfl⟩
                              have HW98 := Lib.hid (more_trans HW96.out (more_trans HB97.out (more_of hb)))
                              clear hb HEVB s0 s1 s2 s3 f0 f1 f2 f3 f4 hbs hbf
                              go_wp2_with fail
                              have hlt9 := HLT5.out
                              go_roundw
                              case rel => exact ⟨k5 + 1, by have := HLT5.out; omega, by go_num, HW98⟩
                              case measure => have := HLT5.out; simp [intOf]; omega
                    · have hkn : k5 = n5 := by omega
                      subst hkn
                      go_wp2_with fail
                      have hlt9 := HLT4.out
                      go_roundw
                      case rel => exact ⟨k4 + 1, by have := HLT4.out; omega, by go_num, HR5⟩
                      case measure => have := HLT4.out; simp [intOf]; omega
                · have hkn : k4 = n4 := by omega
                  subst hkn
                  go_wp2_with fail
                  have hlt9 := HLT3.out
                  go_roundw
                  case rel => exact ⟨k3 + 1, by have := HLT3.out; omega, by go_num, HR4⟩
                  case measure => have := HLT3.out; simp [intOf]; omega
            · have hkn : k3 = n3 := by omega
              subst hkn
              go_wp2_with fail
              have hlt9 := HLT2.out
              go_roundw
              case rel => exact ⟨k2 + 1, by have := HLT2.out; omega, by go_num, HR3⟩
              case measure => have := HLT2.out; simp [intOf]; omega
        · have hkn : k2 = n2 := by omega
          subst hkn
          go_wp2_with fail
          have hlt9 := HLT1.out
          go_roundw
          case rel => exact ⟨k1 + 1, by have := HLT1.out; omega, by go_num, HR2⟩
          case measure => have := HLT1.out; simp [intOf]; omega
    · have hkn : k1 = n1 := by omega
      subst hkn
      go_wp2_with fail
      go_ret
      exact ⟨rfl, (more_trans HM3.out HR1.out).below⟩
end Go.Proofs.Ytekhoanjpnjaeaa

