/- slices.symMergeCmpFunc (135): two neighbouring ascending stretches become one, stably. -/
import Derived.Test.YtekhoanjpnjaeaaSymL
import Derived.Test.YtekhoanjpnjaeaaRot
import Derived.Deep.RegionHeld3
import Derived.Deep.QuietTactic
import Derived.BigQuiet
import Derived.Deep.DeepCutAuto
namespace Go.Proofs.Ytekhoanjpnjaeaa
open Go.RowKit Go.Sort
theorem swp_comm (d : Array (Int × Int)) (i j : Nat) : swp d i j = swp d j i := by
  by_cases h : i = j
  · subst h; rfl
  · exact Array.setIfInBounds_comm _ _ h
set_option maxHeartbeats 2000000 in
set_option maxRecDepth 100000 in
theorem sym_one (X : List (Int × Int)) (p : Int × Int) (Q Z : List (Int × Int)) (B off cap a m b N : Nat) (w : World) (hX : X.length = a) (hm : a + 1 = m) (hQ : m + Q.length = b) (hmb : m < b) (hN : (X ++ [p] ++ Q ++ Z).length = N) (hsz : N < 4294967296) (hsQ : Srt Q)
    (hH : HoldE w B off (X ++ [p] ++ Q ++ Z).toArray) :
    Calls Try.prog 135 #[.slice (some ⟨B, off, none⟩) N cap, .int .i64 a, .int .i64 m, .int .i64 b, .func (.func 78) #[] #[]] w fun e w' => e = .returned (.tuple #[]) ∧ w.grownBy w' (some B) ∧ ∃ R, Merged [p] Q R ∧ HoldE w' B off (X ++ R ++ Z).toArray := by
  have HH := Lib.hid hH; clear hH
  have HS := Lib.hid (show (X ++ [p] ++ Q ++ Z).toArray.size = N by rw [List.size_toArray]; exact hN)
  have HF := Lib.hid (show ∀ i, m ≤ i → i ≤ b → (i = m ∨ (X ++ [p] ++ Q ++ Z).toArray[i - 1]!.1 < (X ++ [p] ++ Q ++ Z).toArray[a]!.1) → (i = b ∨ (X ++ [p] ++ Q ++ Z).toArray[a]!.1 ≤ (X ++ [p] ++ Q ++ Z).toArray[i]!.1) →
      ∃ Q1 Q2, Q = Q1 ++ Q2 ∧ m + Q1.length = i ∧ Merged [p] Q (Q1 ++ p :: Q2) by
    intro i h1 h2 c1 c2
    have ea : (X ++ [p] ++ Q ++ Z).toArray[a]! = p := by
      have := at_P X [p] Q Z (a := a) (t := 0) hX (by simp)
      simpa using this
    obtain ⟨P1, P2, Q1, Q2, e1, e2, l1, l2, g1, g2⟩ := sym_split X [p] Q Z a m b a i hX (by simp; omega) hQ (Nat.le_refl _) (by omega) h1 h2 (Or.inl rfl) (by rcases c1 with c | c; exact Or.inr (Or.inl c); exact Or.inr (Or.inr c)) (List.pairwise_singleton _ _) hsQ
    have l3 : P1.length = 0 := by omega
    obtain rfl := List.eq_nil_of_length_eq_zero l3
    rw [List.nil_append] at e1
    subst e1
    have hq : ∀ y ∈ Q2, p.1 ≤ y.1 := by
      have hd : Q2 = Q.drop (i - m) := by rw [e2, List.drop_append_of_le_length (by omega), List.drop_of_length_le (by omega), List.nil_append]
      rw [hd]
      refine drop_le hsQ ?_
      rcases c2 with c | c
      · left; omega
      · by_cases hb : i = b
        · left; omega
        · right
          have e3 := at_Q X [p] Q Z (m := m) (t := i - m) (by simp; omega) (by omega)
          rw [show m + (i - m) = i by omega] at e3
          rw [e3, ea] at c
          omega
    refine ⟨Q1, Q2, e2, l2, ?_⟩
    have hs := hsQ
    rw [e2] at hs
    have hs2 := List.pairwise_append.1 hs
    have := Merged.join (Merged.nilL (Q := Q1) hs2.1) (Merged.id (P := [p]) (Q := Q2) (List.pairwise_singleton _ _) hs2.2.1 (fun x hx y hy => by rw [List.mem_singleton.1 hx]; exact hq y hy)) (List.pairwise_singleton _ _) hs (fun x hx => by cases hx) g2
    rw [← e2] at this
    exact this)
  obtain ⟨D, hD⟩ : ∃ D, X ++ [p] ++ Q ++ Z = D := ⟨_, rfl⟩
  have hbN : b ≤ N := by rw [← hN]; simp only [List.length_append, List.length_singleton]; omega
  have HD := Lib.hid (And.intro hD hX)
  rw [hD] at HH HS HF
  clear hD hN hX hQ hsQ
  have s1 : (m : Int) - (a : Int) = 1 := by omega
  have HMA := Lib.hid hm
  have ham : a < m := by omega
  clear hm
  go_enter Try.func135, Try.ntmps135
  go_wp2_with fail
  go_loopw [10, 11] (fun vi vj wr => ∃ i j : Nat, vi = .int .i64 i ∧ vj = .int .i64 j ∧ m ≤ i ∧ i ≤ j ∧ j ≤ b ∧ Hid (w.grownBy wr (some B)) ∧ Hid (HoldE wr B off D.toArray) ∧ Hid ((i = m ∨ D.toArray[i - 1]!.1 < D.toArray[a]!.1) ∧ (j = b ∨ D.toArray[a]!.1 ≤ D.toArray[j]!.1))) (fun vi vj _ => (intOf vj).toNat - (intOf vi).toNat)
  case atStart => exact ⟨m, b, rfl, rfl, Nat.le_refl _, by omega, Nat.le_refl _, Lib.hid (World.grownBy.refl _ _), HH, Lib.hid ⟨Or.inl rfl, Or.inl rfl⟩⟩
  case round =>
    obtain ⟨i, j, rfl, rfl, h1, h2, h3, HG, HK, HJ⟩ := hrel
    clear s1
    by_cases hlt : i < j
    · skip
      obtain ⟨c, hc⟩ : ∃ c : Nat, ((i : Int) + j) / 2 = c := ⟨(i + j) / 2, by omega⟩
      have hc1 : i ≤ c := by omega
      have hc2 : c < j := by omega

      have c1 := HK.out c (by rw [HS.out]; omega)
      have c2 := HK.out a (by rw [HS.out]; omega)
      generalize hx : D.toArray[c]! = x at *
      generalize hy : D.toArray[a]! = y at *
      have HXY := Lib.hid (And.intro hx hy)
      clear hx hy
      obtain ⟨p0, p1, f0, f1⟩ := c1
      obtain ⟨q0, q1, f2, f3⟩ := c2
      have hBr : B < wr.heap.size := cell_lt p0
      have s0 : wr.drew.cell? ⟨B, off + c * 2, none⟩ = some (.int .i64 x.1) := p0
      have s1 : wr.drew.cell? ⟨B, off + c * 2 + 1, none⟩ = some (.int .i64 x.2) := p1
      have s2 : wr.drew.cell? ⟨B, off + a * 2, none⟩ = some (.int .i64 y.1) := q0
      have s3 : wr.drew.cell? ⟨B, off + a * 2 + 1, none⟩ = some (.int .i64 y.2) := q1
      have z1 : (c : Int) < (N : Int) := by omega
      have z2 : (a : Int) < (N : Int) := by omega
      clear f0 f1 f2 f3
      by_cases hk : x.1 < y.1
      · have t1 : decide (cmpI x.1 y.1 < 0) = true := by simp [cmpI_neg, hk]
        have HC := Lib.hid hk; clear hk
        go_wp2_with fail
        clear hc
        go_region_held3 (fun wx => wx.cell? ⟨B, off + c * 2, none⟩ = some (.int .i64 x.1) ∧ wx.cell? ⟨B, off + c * 2 + 1, none⟩ = some (.int .i64 x.2) ∧ wx.cell? ⟨B, off + a * 2, none⟩ = some (.int .i64 y.1) ∧ wx.cell? ⟨B, off + a * 2 + 1, none⟩ = some (.int .i64 y.2)) (first | with_reducible exact ⟨s0, s1, s2, s3⟩ | with_reducible exact ⟨k0, k1, k2, k3⟩) (first | (go_at_call 78; refine (cmp78 x y _).mono ?_; rintro e w1 ⟨rfl, hw1⟩; have k0 := hw1.cell s0; have k1 := hw1.cell s1; have k2 := hw1.cell s2; have k3 := hw1.cell s3))
        have HG2 := Lib.hid (grownBy_more (grownBy_more HG.out (more_drew wr)) hw1)
        have HN2 := Lib.hid (HK.out.keep (hw1.block hBr))
        clear hw1 p0 p1 q0 q1 s0 s1 s2 s3 k0 k1 k2 k3
        go_wp2_with fail
        go_roundw
        case rel => exact ⟨c + 1, j, by go_num, rfl, by omega, by omega, by omega, HG2, HN2, Lib.hid ⟨Or.inr (by have hcc := HC.out; simp only [Nat.add_sub_cancel, HXY.out.1]; omega), HJ.out.2⟩⟩
        case measure => simp [intOf]; omega
      · have t1 : decide (cmpI x.1 y.1 < 0) = false := by simp [cmpI_neg, hk]
        have HC := Lib.hid hk; clear hk
        go_wp2_with fail
        clear hc
        go_region_held3 (fun wx => wx.cell? ⟨B, off + c * 2, none⟩ = some (.int .i64 x.1) ∧ wx.cell? ⟨B, off + c * 2 + 1, none⟩ = some (.int .i64 x.2) ∧ wx.cell? ⟨B, off + a * 2, none⟩ = some (.int .i64 y.1) ∧ wx.cell? ⟨B, off + a * 2 + 1, none⟩ = some (.int .i64 y.2)) (first | with_reducible exact ⟨s0, s1, s2, s3⟩ | with_reducible exact ⟨k0, k1, k2, k3⟩) (first | (go_at_call 78; refine (cmp78 x y _).mono ?_; rintro e w1 ⟨rfl, hw1⟩; have k0 := hw1.cell s0; have k1 := hw1.cell s1; have k2 := hw1.cell s2; have k3 := hw1.cell s3))
        have HG2 := Lib.hid (grownBy_more (grownBy_more HG.out (more_drew wr)) hw1)
        have HN2 := Lib.hid (HK.out.keep (hw1.block hBr))
        clear hw1 p0 p1 q0 q1 s0 s1 s2 s3 k0 k1 k2 k3
        go_wp2_with fail
        go_roundw
        case rel => exact ⟨i, c, rfl, by go_num, by omega, by omega, by omega, HG2, HN2, Lib.hid ⟨HJ.out.1, Or.inr (by have hcc := HC.out; simp only [HXY.out.1]; omega)⟩⟩
        case measure => simp [intOf]; omega
    · obtain rfl : j = i := by omega
      obtain ⟨Q1, Q2, e2, l2, hM⟩ := HF.out j h1 h3 HJ.out.1 HJ.out.2
      have HM := Lib.hid hM; clear hM
      have HK0 := Lib.hid (show HoldE wr B off (X ++ (Q1.take 0 ++ p :: (Q1.drop 0 ++ Q2)) ++ Z).toArray by
        have := HK.out
        rw [← HD.out.1, e2] at this
        simpa using this)
      have HL := Lib.hid (show (X ++ Q1 ++ Q2 ++ Z).length + 1 = N ∧ X.length = a by
        refine ⟨?_, HD.out.2⟩
        have := HS.out
        rw [← HD.out.1, e2, List.size_toArray] at this
        simp only [List.length_append, List.length_singleton] at this ⊢
        omega)
      obtain ⟨q, hq⟩ : ∃ q, Q1.length = q := ⟨_, rfl⟩
      have hjq : j = a + 1 + q := by have := HMA.out; omega
      have s2 : (j : Int) - 1 = ((a + q : Nat) : Int) := by omega
      have haq : a + q + 1 ≤ N := by omega
      have HQ := Lib.hid hq
      obtain ⟨wo, rfl⟩ : ∃ wo : World, wo = wr := ⟨_, rfl⟩
      clear hq hjq HK HF HJ HH HD e2 l2
      obtain ⟨u, hu⟩ : ∃ u : Nat, a + q = u := ⟨_, rfl⟩
      rw [hu] at s2 haq
      have HU := Lib.hid hu; clear hu
      go_wp2_with fail
      go_loopw [13] (fun vk wr => ∃ k t : Nat, vk = .int .i64 k ∧ Hid (k = a + t) ∧ k ≤ u ∧ Hid (w.grownBy wr (some B)) ∧ Hid (HoldE wr B off (X ++ (Q1.take t ++ p :: (Q1.drop t ++ Q2)) ++ Z).toArray)) (fun vk _ => u - (intOf vk).toNat)
      case atStart => exact ⟨a, 0, rfl, Lib.hid rfl, by have := HU.out; omega, HG, HK0⟩
      case round =>
        obtain ⟨k, t, rfl, HT, hku, HGK, HKK⟩ := hrel
        by_cases hlt' : k < u
        · have ht : t < Q1.length := by have := HT.out; have := HU.out; have := HQ.out; omega
          have e1 : X ++ (Q1.take t ++ p :: (Q1.drop t ++ Q2)) ++ Z = (X ++ Q1.take t) ++ p :: ([] ++ Q1[t] :: (Q1.drop (t + 1) ++ Q2 ++ Z)) := by
            rw [List.drop_eq_getElem_cons (l := Q1) (i := t) ht]; simp only [List.append_assoc, List.cons_append, List.nil_append]
          have e2 : X ++ (Q1.take (t + 1) ++ p :: (Q1.drop (t + 1) ++ Q2)) ++ Z = (X ++ Q1.take t) ++ Q1[t] :: ([] ++ p :: (Q1.drop (t + 1) ++ Q2 ++ Z)) := by
            rw [List.take_succ_eq_append_getElem (l := Q1) (i := t) ht]; simp only [List.append_assoc, List.cons_append, List.nil_append]
          have l1 : (X ++ Q1.take t).length = k := by have := HT.out; have := HL.out.2; simp; omega
          have hp := get_app (X ++ Q1.take t) p ([] ++ Q1[t] :: (Q1.drop (t + 1) ++ Q2 ++ Z)) k l1
          have hq := get_app2 (X ++ Q1.take t) p [] Q1[t] (Q1.drop (t + 1) ++ Q2 ++ Z) (k + 1) (by simp only [List.length_nil]; omega)
          have hs := swp_app (X ++ Q1.take t) p [] Q1[t] (Q1.drop (t + 1) ++ Q2 ++ Z) k (k + 1) l1 (by simp only [List.length_nil]; omega)
          rw [← e1] at hp hq hs
          rw [← e2] at hs
          have hsz1 : (X ++ (Q1.take t ++ p :: (Q1.drop t ++ Q2)) ++ Z).toArray.size = N := by
            have := HL.out.1
            rw [List.size_toArray]
            simp only [List.length_append, List.length_cons, List.length_take, List.length_drop] at this ⊢
            omega
          have c1 := HKK.out k (by omega)
          have c2 := HKK.out (k + 1) (by omega)
          have HN := Lib.hid (show HoldE (swW wr B off k (k + 1) p Q1[t]) B off (X ++ (Q1.take (t + 1) ++ p :: (Q1.drop (t + 1) ++ Q2)) ++ Z).toArray by
            have := swW_holds HKK.out (i := k) (j := k + 1) (by omega) (by omega)
            rw [hp, hq, hs] at this
            exact this)
          rw [hp] at c1
          rw [hq] at c2
          have HN2 := Lib.hid (swW_grown HGK.out off k (k + 1) p Q1[t])
          have HT2 := Lib.hid (show k + 1 = a + (t + 1) by have := HT.out; omega)
          clear hp hq hs e1 e2 l1 hsz1 HKK HGK
          generalize Q1[t] = y at *
          obtain ⟨p0, p1, f0, f1⟩ := c1
          obtain ⟨q0, q1, f2, f3⟩ := c2
          have b1 : (k : Int) < N := by omega
          have b2 : (k : Int) + 1 < N := by omega
          go_wp2_with fail
          go_region
          go_wp2_with fail
          go_roundw
          case rel => exact ⟨k + 1, t + 1, by go_num, HT2, by omega, HN2, HN⟩
          case measure => simp [intOf]; omega
        · go_wp2_with fail
          refine bodyPost_ret (results_none rfl _ _ _) rfl ?_
          refine ⟨rfl, HGK.out, _, HM.out, ?_⟩
          have ht : t = Q1.length := by have := HT.out; have := HU.out; have := HQ.out; omega
          have := HKK.out
          rw [ht, List.take_length, List.drop_length, List.nil_append] at this
          exact this
end Go.Proofs.Ytekhoanjpnjaeaa
