/- slices.symMergeCmpFunc (135): two neighbouring ascending stretches become one, stably. -/
import Derived.Test.YtekhoanjpnjaeaaSym1
import Derived.Test.YtekhoanjpnjaeaaRot
import Derived.Deep.RegionHeld3
import Derived.Deep.QuietTactic
import Derived.BigQuiet
import Derived.Deep.DeepCutAuto
namespace Go.Proofs.Ytekhoanjpnjaeaa
open Go.RowKit Go.Sort
set_option maxHeartbeats 2000000 in
set_option maxRecDepth 100000 in
theorem sym_last (X P : List (Int × Int)) (q : Int × Int) (Z : List (Int × Int)) (B off cap a m b N : Nat) (w : World) (hX : X.length = a) (hP : a + P.length = m) (hb : m + 1 = b) (ham : a + 1 < m) (hN : (X ++ P ++ [q] ++ Z).length = N) (hsz : N < 4294967296) (hsP : Srt P)
    (hH : HoldE w B off (X ++ P ++ [q] ++ Z).toArray) :
    Calls Try.prog 135 #[.slice (some ⟨B, off, none⟩) N cap, .int .i64 a, .int .i64 m, .int .i64 b, .func (.func 78) #[] #[]] w fun e w' => e = .returned (.tuple #[]) ∧ w.grownBy w' (some B) ∧ ∃ R, Merged P [q] R ∧ HoldE w' B off (X ++ R ++ Z).toArray := by
  have HH := Lib.hid hH; clear hH
  have HS := Lib.hid (show (X ++ P ++ [q] ++ Z).toArray.size = N by rw [List.size_toArray]; exact hN)
  have HF := Lib.hid (show ∀ i, a ≤ i → i ≤ m → (i = a ∨ (X ++ P ++ [q] ++ Z).toArray[i - 1]!.1 ≤ (X ++ P ++ [q] ++ Z).toArray[m]!.1) → (i = m ∨ (X ++ P ++ [q] ++ Z).toArray[m]!.1 < (X ++ P ++ [q] ++ Z).toArray[i]!.1) →
      ∃ P1 P2, P = P1 ++ P2 ∧ a + P1.length = i ∧ Merged P [q] (P1 ++ q :: P2) by
    intro i h1 h2 c1 c2
    have ea : (X ++ P ++ [q] ++ Z).toArray[m]! = q := by
      have := at_Q X P [q] Z (m := m) (t := 0) (by omega) (by simp)
      simpa using this
    obtain ⟨P1, P2, Q1, Q2, e1, e2, l1, l2, g1, g2⟩ := sym_split X P [q] Z a m b i b hX hP (by simpa using hb) h1 h2 (by omega) (Nat.le_refl _) (Or.inr (Or.inl rfl)) (by rcases c2 with c | c; exact Or.inl c; exact Or.inr (Or.inr (by rw [← hb, Nat.add_sub_cancel]; exact c))) hsP (List.pairwise_singleton _ _)
    have l3 : Q2.length = 0 := by
      have := congrArg List.length e2
      simp only [List.length_append, List.length_singleton] at this
      omega
    obtain rfl := List.eq_nil_of_length_eq_zero l3
    rw [List.append_nil] at e2
    subst e2
    have hq : ∀ x ∈ P1, x.1 ≤ q.1 := by
      have hd : P1 = P.take (i - a) := by rw [e1, List.take_append_of_le_length (by omega), List.take_of_length_le (by omega)]
      rw [hd]
      refine take_le hsP (by omega) ?_
      rcases c1 with c | c
      · left; omega
      · by_cases hb : i = a
        · left; omega
        · right
          have e3 := at_P X P [q] Z (a := a) (t := i - a - 1) hX (by omega)
          rw [show a + (i - a - 1) = i - 1 by omega] at e3
          rw [e3, ea] at c
          omega
    refine ⟨P1, P2, e1, l1, ?_⟩
    have hs := hsP
    rw [e1] at hs
    have hs2 := List.pairwise_append.1 hs
    have := Merged.join (Merged.id (P := P1) (Q := [q]) hs2.1 (List.pairwise_singleton _ _) (fun x hx y hy => by rw [List.mem_singleton.1 hy]; exact hq x hx)) (Merged.nilR (P := P2) hs2.2.1) hs (by rw [List.append_nil]; exact List.pairwise_singleton _ _) (fun x _ y hy => by cases hy) g2
    rw [← e1, List.append_nil] at this
    simpa [List.append_assoc] using this)
  obtain ⟨D, hD⟩ : ∃ D, X ++ P ++ [q] ++ Z = D := ⟨_, rfl⟩
  have hbN : b ≤ N := by rw [← hN]; simp only [List.length_append, List.length_singleton]; omega
  have HD := Lib.hid (And.intro hD (And.intro hX hP))
  rw [hD] at HH HS HF
  clear hD hN hX hP hsP
  obtain ⟨g, hg⟩ : ∃ g : Nat, (m : Int) - (a : Int) = g := ⟨m - a, by omega⟩
  have hg2 : ((g : Int) == 1) = false := by simp; omega
  have s1 : (b : Int) - (m : Int) = 1 := by omega
  have hmb : m < b := by omega
  clear hb
  go_enter Try.func135, Try.ntmps135
  go_wp2_with fail
  go_loopw [14, 15] (fun vi vj wr => ∃ i j : Nat, vi = .int .i64 i ∧ vj = .int .i64 j ∧ a ≤ i ∧ i ≤ j ∧ j ≤ m ∧ Hid (w.grownBy wr (some B)) ∧ Hid (HoldE wr B off D.toArray) ∧ Hid ((i = a ∨ D.toArray[i - 1]!.1 ≤ D.toArray[m]!.1) ∧ (j = m ∨ D.toArray[m]!.1 < D.toArray[j]!.1))) (fun vi vj _ => (intOf vj).toNat - (intOf vi).toNat)
  case atStart => exact ⟨a, m, rfl, rfl, Nat.le_refl _, by omega, Nat.le_refl _, Lib.hid (World.grownBy.refl _ _), HH, Lib.hid ⟨Or.inl rfl, Or.inl rfl⟩⟩
  case round =>
    obtain ⟨i, j, rfl, rfl, h1, h2, h3, HG, HK, HJ⟩ := hrel
    clear s1 hg hg2
    by_cases hlt : i < j
    · skip
      obtain ⟨c, hc⟩ : ∃ c : Nat, ((i : Int) + j) / 2 = c := ⟨(i + j) / 2, by omega⟩
      have hc1 : i ≤ c := by omega
      have hc2 : c < j := by omega

      have c1 := HK.out m (by rw [HS.out]; omega)
      have c2 := HK.out c (by rw [HS.out]; omega)
      generalize hx : D.toArray[m]! = x at *
      generalize hy : D.toArray[c]! = y at *
      have HXY := Lib.hid (And.intro hx hy)
      clear hx hy
      obtain ⟨p0, p1, f0, f1⟩ := c1
      obtain ⟨q0, q1, f2, f3⟩ := c2
      have hBr : B < wr.heap.size := cell_lt p0
      have s0 : wr.drew.cell? ⟨B, off + m * 2, none⟩ = some (.int .i64 x.1) := p0
      have s1 : wr.drew.cell? ⟨B, off + m * 2 + 1, none⟩ = some (.int .i64 x.2) := p1
      have s2 : wr.drew.cell? ⟨B, off + c * 2, none⟩ = some (.int .i64 y.1) := q0
      have s3 : wr.drew.cell? ⟨B, off + c * 2 + 1, none⟩ = some (.int .i64 y.2) := q1
      have z1 : (m : Int) < (N : Int) := by omega
      have z2 : (c : Int) < (N : Int) := by omega
      clear f0 f1 f2 f3
      by_cases hk : x.1 < y.1
      · have t1 : decide (cmpI x.1 y.1 < 0) = true := by simp [cmpI_neg, hk]
        have HC := Lib.hid hk; clear hk
        go_wp2_with fail
        clear hc
        go_region_held3 (fun wx => wx.cell? ⟨B, off + m * 2, none⟩ = some (.int .i64 x.1) ∧ wx.cell? ⟨B, off + m * 2 + 1, none⟩ = some (.int .i64 x.2) ∧ wx.cell? ⟨B, off + c * 2, none⟩ = some (.int .i64 y.1) ∧ wx.cell? ⟨B, off + c * 2 + 1, none⟩ = some (.int .i64 y.2)) (first | with_reducible exact ⟨s0, s1, s2, s3⟩ | with_reducible exact ⟨k0, k1, k2, k3⟩) (first | (go_at_call 78; refine (cmp78 x y _).mono ?_; rintro e w1 ⟨rfl, hw1⟩; have k0 := hw1.cell s0; have k1 := hw1.cell s1; have k2 := hw1.cell s2; have k3 := hw1.cell s3))
        have HG2 := Lib.hid (grownBy_more (grownBy_more HG.out (more_drew wr)) hw1)
        have HN2 := Lib.hid (HK.out.keep (hw1.block hBr))
        clear hw1 p0 p1 q0 q1 s0 s1 s2 s3 k0 k1 k2 k3
        go_wp2_with fail
        go_roundw
        case rel => exact ⟨i, c, rfl, by go_num, by omega, by omega, by omega, HG2, HN2, Lib.hid ⟨HJ.out.1, Or.inr (by have hcc := HC.out; simp only [HXY.out.2]; omega)⟩⟩
        case measure => simp [intOf]; omega
      · have t1 : decide (cmpI x.1 y.1 < 0) = false := by simp [cmpI_neg, hk]
        have HC := Lib.hid hk; clear hk
        go_wp2_with fail
        clear hc
        go_region_held3 (fun wx => wx.cell? ⟨B, off + m * 2, none⟩ = some (.int .i64 x.1) ∧ wx.cell? ⟨B, off + m * 2 + 1, none⟩ = some (.int .i64 x.2) ∧ wx.cell? ⟨B, off + c * 2, none⟩ = some (.int .i64 y.1) ∧ wx.cell? ⟨B, off + c * 2 + 1, none⟩ = some (.int .i64 y.2)) (first | with_reducible exact ⟨s0, s1, s2, s3⟩ | with_reducible exact ⟨k0, k1, k2, k3⟩) (first | (go_at_call 78; refine (cmp78 x y _).mono ?_; rintro e w1 ⟨rfl, hw1⟩; have k0 := hw1.cell s0; have k1 := hw1.cell s1; have k2 := hw1.cell s2; have k3 := hw1.cell s3))
        have HG2 := Lib.hid (grownBy_more (grownBy_more HG.out (more_drew wr)) hw1)
        have HN2 := Lib.hid (HK.out.keep (hw1.block hBr))
        clear hw1 p0 p1 q0 q1 s0 s1 s2 s3 k0 k1 k2 k3
        go_wp2_with fail
        go_roundw
        case rel => exact ⟨c + 1, j, by go_num, rfl, by omega, by omega, by omega, HG2, HN2, Lib.hid ⟨Or.inr (by have hcc := HC.out; simp only [Nat.add_sub_cancel, HXY.out.2]; omega), HJ.out.2⟩⟩
        case measure => simp [intOf]; omega
    · obtain rfl : j = i := by omega
      obtain ⟨P1, P2, e2, l2, hM⟩ := HF.out j h1 h3 HJ.out.1 HJ.out.2
      have HM := Lib.hid hM; clear hM
      have HK0 := Lib.hid (show HoldE wr B off (X ++ (P1 ++ (P2.take P2.length ++ q :: P2.drop P2.length)) ++ Z).toArray by
        have := HK.out
        rw [← HD.out.1, e2] at this
        simpa using this)
      have HL := Lib.hid (show (X ++ P1 ++ P2 ++ Z).length + 1 = N ∧ X.length + P1.length = j ∧ j + P2.length = m by
        have h5 := HD.out.2
        have h6 := HS.out
        rw [← HD.out.1, e2, List.size_toArray] at h6
        rw [e2] at h5
        simp only [List.length_append, List.length_singleton] at h5 h6 ⊢
        omega)
      obtain ⟨wo, rfl⟩ : ∃ wo : World, wo = wr := ⟨_, rfl⟩
      clear HK HF HJ HH HD e2 l2
      go_wp2_with fail
      go_loopw [17] (fun vk wr => ∃ k t : Nat, vk = .int .i64 k ∧ Hid (k = j + t ∧ t ≤ P2.length) ∧ j ≤ k ∧ k ≤ m ∧ Hid (w.grownBy wr (some B)) ∧ Hid (HoldE wr B off (X ++ (P1 ++ (P2.take t ++ q :: P2.drop t)) ++ Z).toArray)) (fun vk _ => (intOf vk).toNat)
      case atStart => exact ⟨m, P2.length, rfl, Lib.hid ⟨HL.out.2.2.symm, Nat.le_refl _⟩, h3, Nat.le_refl _, HG, HK0⟩
      case round =>
        obtain ⟨k, t, rfl, HT, hjk, hkm, HGK, HKK⟩ := hrel
        by_cases hlt' : j < k
        · obtain ⟨kp, rfl⟩ : ∃ kp, k = kp + 1 := ⟨k - 1, by omega⟩
          obtain ⟨tp, htp⟩ : ∃ tp, t = tp + 1 := ⟨t - 1, by have := HT.out; omega⟩
          subst htp
          have ht : tp < P2.length := by have := HT.out.2; omega
          have e1 : X ++ (P1 ++ (P2.take (tp + 1) ++ q :: P2.drop (tp + 1))) ++ Z = (X ++ P1 ++ P2.take tp) ++ P2[tp] :: ([] ++ q :: (P2.drop (tp + 1) ++ Z)) := by
            rw [List.take_succ_eq_append_getElem (l := P2) (i := tp) ht]; simp only [List.append_assoc, List.cons_append, List.nil_append]
          have e2 : X ++ (P1 ++ (P2.take tp ++ q :: P2.drop tp)) ++ Z = (X ++ P1 ++ P2.take tp) ++ q :: ([] ++ P2[tp] :: (P2.drop (tp + 1) ++ Z)) := by
            rw [List.drop_eq_getElem_cons (l := P2) (i := tp) ht]; simp only [List.append_assoc, List.cons_append, List.nil_append]
          have l1 : (X ++ P1 ++ P2.take tp).length = kp := by have := HT.out.1; have := HL.out.2.1; simp only [List.length_append, List.length_take]; omega
          have hp := get_app (X ++ P1 ++ P2.take tp) P2[tp] ([] ++ q :: (P2.drop (tp + 1) ++ Z)) kp l1
          have hq := get_app2 (X ++ P1 ++ P2.take tp) P2[tp] [] q (P2.drop (tp + 1) ++ Z) (kp + 1) (by simp only [List.length_nil]; omega)
          have hs := swp_app (X ++ P1 ++ P2.take tp) P2[tp] [] q (P2.drop (tp + 1) ++ Z) kp (kp + 1) l1 (by simp only [List.length_nil]; omega)
          rw [← e1] at hp hq hs
          rw [← e2] at hs
          have hsz1 : (X ++ (P1 ++ (P2.take (tp + 1) ++ q :: P2.drop (tp + 1))) ++ Z).toArray.size = N := by
            have := HL.out.1
            rw [List.size_toArray]
            simp only [List.length_append, List.length_cons, List.length_take, List.length_drop] at this ⊢
            omega
          have c1 := HKK.out kp (by omega)
          have c2 := HKK.out (kp + 1) (by omega)
          have HN := Lib.hid (show HoldE (swW wr B off (kp + 1) kp q P2[tp]) B off (X ++ (P1 ++ (P2.take tp ++ q :: P2.drop tp)) ++ Z).toArray by
            have := swW_holds HKK.out (i := kp + 1) (j := kp) (by omega) (by omega)
            rw [hp, hq, swp_comm, hs] at this
            exact this)
          rw [hp] at c1
          rw [hq] at c2
          have HN2 := Lib.hid (swW_grown HGK.out off (kp + 1) kp q P2[tp])
          have HT2 := Lib.hid (show kp = j + tp ∧ tp ≤ P2.length by have := HT.out; omega)
          clear hp hq hs e1 e2 l1 hsz1 HKK HGK
          generalize P2[tp] = y at *
          obtain ⟨p0, p1, f0, f1⟩ := c1
          obtain ⟨q0, q1, f2, f3⟩ := c2
          have b1 : (kp : Int) < N := by omega
          have b2 : (kp : Int) + 1 < N := by omega
          have hwp : IntKind.i64.wrap (kp : Int) = (kp : Int) := by rw [IntKind.wrap_i64]; omega
          go_wp2_with fail
          go_region
          go_wp2_with fail
          go_roundw
          case rel => exact ⟨kp, tp, by first | rfl | go_num, HT2, by omega, by omega, HN2, HN⟩
          case measure => simp [intOf]
        · go_wp2_with fail
          refine bodyPost_ret (results_none rfl _ _ _) rfl ?_
          refine ⟨rfl, HGK.out, _, HM.out, ?_⟩
          have ht : t = 0 := by have := HT.out; omega
          have := HKK.out
          rw [ht, List.take_zero, List.drop_zero, List.nil_append] at this
          exact this
def SymSaid (n : Nat) : Prop := ∀ (X P Q Z : List (Int × Int)) (B off cap a m b N : Nat) (w : World), b ≤ a + n → X.length = a → a + P.length = m → m + Q.length = b → a < m → m < b → (X ++ P ++ Q ++ Z).length = N → N < 4294967296 → Srt P → Srt Q → HoldE w B off (X ++ P ++ Q ++ Z).toArray →
    Calls Try.prog 135 #[.slice (some ⟨B, off, none⟩) N cap, .int .i64 a, .int .i64 m, .int .i64 b, .func (.func 78) #[] #[]] w fun e w' => e = .returned (.tuple #[]) ∧ w.grownBy w' (some B) ∧ ∃ R, Merged P Q R ∧ HoldE w' B off (X ++ R ++ Z).toArray
end Go.Proofs.Ytekhoanjpnjaeaa
