/- Texts FRot, FSy1, FSy2, laid together. -/
import Derived.Deep.RegionHeld3
import Derived.Deep.QuietTactic
import Derived.BigQuiet
import Derived.Deep.DeepCutAuto
import Derived.Test.YtemeppfikpafbaaGreatVcd
/- slices.rotateCmpFunc (142): two neighbouring stretches change their places. -/
namespace Go.Proofs.YtemeppfikpafbaaGreat
open Go.RowKit Go.Sort
variable {CP : Nat} {V : Int × Int → Prop} {G : Int × Int → Fnd}

/-- What a round of rotate keeps: the stretches P and Q in the middle, and what is wanted in the end. -/
structure RotI (T : List (Int × Int)) (N m i j : Nat) (D : List (Int × Int)) : Prop where
  ex : ∃ X P Q Z : List (Int × Int), D = X ++ P ++ Q ++ Z ∧ T = X ++ Q ++ P ++ Z ∧ X.length + i = m ∧ P.length = i ∧ Q.length = j
  len : D.length = N
  pos : 0 < i ∧ 0 < j ∧ i ≤ m ∧ m + j ≤ N

theorem RotI.left {T D : List (Int × Int)} {N m i j : Nat} (h : RotI T N m i j D) (hij : j < i) :
    ∃ X P Y Q Z, D = X ++ P ++ Y ++ Q ++ Z ∧ X.length = m - i ∧ P.length = j ∧ Q.length = j ∧ m - i + j + Y.length = m ∧ RotI T N m (i - j) j (X ++ Q ++ Y ++ P ++ Z) := by
  obtain ⟨⟨X, P, Q, Z, rfl, rfl, h1, h2, h3⟩, hl, hp⟩ := h
  have l1 : (P.take j).length = j := by rw [List.length_take]; omega
  have l2 : (P.drop j).length = i - j := by rw [List.length_drop]; omega
  have e : P = P.take j ++ P.drop j := (List.take_append_drop j P).symm
  simp only [List.length_append] at hl
  refine ⟨X, P.take j, P.drop j, Q, Z, ?_, by omega, l1, h3, by omega, ⟨⟨X ++ Q, P.drop j, P.take j, Z, ?_, ?_, ?_, l2, l1⟩, ?_, by omega⟩⟩
  · conv => lhs; rw [e]
    simp
  · simp
  · conv => lhs; rw [e]
    simp
  · rw [List.length_append]; omega
  · simp only [List.length_append, l1, l2]; omega

theorem RotI.right {T D : List (Int × Int)} {N m i j : Nat} (h : RotI T N m i j D) (hij : i < j) :
    ∃ X P Y Q Z, D = X ++ P ++ Y ++ Q ++ Z ∧ X.length = m - i ∧ P.length = i ∧ Q.length = i ∧ m - i + i + Y.length = m + j - i ∧ RotI T N m i (j - i) (X ++ Q ++ Y ++ P ++ Z) := by
  obtain ⟨⟨X, P, Q, Z, rfl, rfl, h1, h2, h3⟩, hl, hp⟩ := h
  have l1 : (Q.take (j - i)).length = j - i := by rw [List.length_take]; omega
  have l2 : (Q.drop (j - i)).length = i := by rw [List.length_drop]; omega
  have e : Q = Q.take (j - i) ++ Q.drop (j - i) := (List.take_append_drop (j - i) Q).symm
  simp only [List.length_append] at hl
  refine ⟨X, P, Q.take (j - i), Q.drop (j - i), Z, ?_, by omega, h2, l2, by omega, ⟨⟨X, Q.drop (j - i), Q.take (j - i), P ++ Z, ?_, ?_, h1, l2, l1⟩, ?_, by omega⟩⟩
  · conv => lhs; rw [e]
    simp
  · simp
  · conv => lhs; rw [e]
    simp
  · simp only [List.length_append, l1, l2]; omega

theorem RotI.last {T D : List (Int × Int)} {N m i : Nat} (h : RotI T N m i i D) :
    ∃ X P Y Q Z, D = X ++ P ++ Y ++ Q ++ Z ∧ X.length = m - i ∧ P.length = i ∧ Q.length = i ∧ m - i + i + Y.length = m ∧ T = X ++ Q ++ Y ++ P ++ Z := by
  obtain ⟨⟨X, P, Q, Z, rfl, rfl, h1, h2, h3⟩, hl, hp⟩ := h
  exact ⟨X, P, [], Q, Z, by simp, by omega, h2, h3, by simp; omega, by simp⟩

set_option maxHeartbeats 1000000 in
set_option maxRecDepth 100000 in
theorem rot_any (X P Q Z : List (Int × Int)) (B off cap a m b N : Nat) (fv : Value) (w : World) (hX : X.length = a) (hP : a + P.length = m) (hQ : m + Q.length = b) (h1 : a < m) (h2 : m < b) (hN : (X ++ P ++ Q ++ Z).length = N) (hsz : N < 4294967296)
    (hH : HoldF CP V G w B off (X ++ P ++ Q ++ Z).toArray) :
    Calls Tryz.prog 110 #[.slice (some ⟨B, off, none⟩) N cap, .int .i64 a, .int .i64 m, .int .i64 b, fv] w fun e w' => e = .returned (.tuple #[]) ∧ w.grownBy w' (some B) ∧ HoldF CP V G w' B off (X ++ Q ++ P ++ Z).toArray := by
  have HI := Lib.hid (show RotI (X ++ Q ++ P ++ Z) N m (m - a) (b - m) (X ++ P ++ Q ++ Z) from ⟨⟨X, P, Q, Z, rfl, rfl, by omega, by omega, by omega⟩, hN, by simp only [List.length_append] at hN; omega⟩)
  have HH := Lib.hid hH; clear hH
  generalize X ++ P ++ Q ++ Z = D at *
  generalize X ++ Q ++ P ++ Z = T at *
  have hbN : b ≤ N := by have := HI.out.pos; omega
  clear hX hP hQ hN X P Q Z
  obtain ⟨i0, hi0⟩ : ∃ i0, m = a + i0 := ⟨m - a, by omega⟩
  obtain ⟨j0, hj0⟩ : ∃ j0, b = m + j0 := ⟨b - m, by omega⟩
  have e1 : m - a = i0 := by omega
  have e2 : b - m = j0 := by omega
  rw [e1, e2] at HI
  go_enter Tryz.func110, Tryz.ntmps110
  have s1 : (m : Int) - (a : Int) = (i0 : Int) := by omega
  have s2 : (b : Int) - (m : Int) = (j0 : Int) := by omega
  clear hi0 hj0 e1 e2
  go_wp2_with fail
  go_loopw [10, 11] (fun vi vj wr => ∃ (i j : Nat) (E : List (Int × Int)), vi = .int .i64 i ∧ vj = .int .i64 j ∧ Hid (RotI T N m i j E) ∧ Hid (w.grownBy wr (some B)) ∧ Hid (HoldF CP V G wr B off E.toArray)) (fun vi vj _ => (intOf vi).toNat + (intOf vj).toNat)
  case atStart => exact ⟨i0, j0, D, by first | rfl | go_num, by first | rfl | go_num, HI, Lib.hid (World.grownBy.refl _ _), HH⟩
  case round =>
    obtain ⟨i, j, E, rfl, rfl, HR, HG, HE⟩ := hrel
    have hp := HR.out.pos
    rcases Nat.lt_trichotomy i j with hij | hij | hij
    · obtain ⟨X, P, Y, Q, Z, hD, l1, l2, l3, l4, hR⟩ := HR.out.right hij
      subst hD
      have HR' := Lib.hid hR
      have HC := Lib.hid (swapR_any X P Y Q Z B off cap (m - i) (m + j - i) i N fv wr l1 l2 l3 l4 HR.out.len hsz HE.out)
      clear hR l1 l2 l3 l4
      obtain ⟨x, hx⟩ : ∃ x, m - i = x := ⟨_, rfl⟩
      obtain ⟨y, hy⟩ : ∃ y, m + j - i = y := ⟨_, rfl⟩
      obtain ⟨z, hz⟩ : ∃ z, j - i = z := ⟨_, rfl⟩
      rw [hx, hy] at HC
      rw [hz] at HR'
      have q1 : (m : Int) - (i : Int) = (x : Int) := by omega
      have q2 : (m : Int) + (j : Int) - (i : Int) = (y : Int) := by omega
      have q3 : (j : Int) - (i : Int) = (z : Int) := by omega
      clear hx hy hz
      have t1 : ((i : Int) != (j : Int)) = true := by simp; omega
      have t2 : decide ((j : Int) < (i : Int)) = false := by simp; omega
      go_wp2_with fail
      refine HC.out.mono ?_
      rintro e w1 ⟨rfl, hg1, hh1⟩
      have HG1 := Lib.hid (grownBy_trans HG.out hg1)
      have HH1 := Lib.hid hh1
      clear hg1 hh1
      go_wp2_with fail
      go_roundw
      case rel => exact ⟨i, z, _, by first | rfl | go_num, by first | rfl | go_num, HR', HG1, HH1⟩
      case measure => simp [intOf]; omega
    · subst hij
      obtain ⟨X, P, Y, Q, Z, hD, l1, l2, l3, l4, hT⟩ := HR.out.last
      subst hD
      have HC := Lib.hid (swapR_any X P Y Q Z B off cap (m - i) m i N fv wr l1 l2 l3 l4 HR.out.len hsz HE.out)
      clear l1 l2 l3 l4
      obtain ⟨x, hx⟩ : ∃ x, m - i = x := ⟨_, rfl⟩
      rw [hx] at HC
      have q1 : (m : Int) - (i : Int) = (x : Int) := by omega
      have t1 : ((i : Int) != (i : Int)) = false := by simp
      clear hx
      go_wp2_with fail
      refine HC.out.mono ?_
      rintro e w1 ⟨rfl, hg1, hh1⟩
      rw [← hT] at hh1
      have HG1 := Lib.hid (grownBy_trans HG.out hg1)
      have HH1 := Lib.hid hh1
      clear hg1 hh1
      go_wp2_with fail
      go_end0
      exact ⟨rfl, HG1.out, HH1.out⟩
    · obtain ⟨X, P, Y, Q, Z, hD, l1, l2, l3, l4, hR⟩ := HR.out.left hij
      subst hD
      have HR' := Lib.hid hR
      have HC := Lib.hid (swapR_any X P Y Q Z B off cap (m - i) m j N fv wr l1 l2 l3 l4 HR.out.len hsz HE.out)
      clear hR l1 l2 l3 l4
      obtain ⟨x, hx⟩ : ∃ x, m - i = x := ⟨_, rfl⟩
      obtain ⟨z, hz⟩ : ∃ z, i - j = z := ⟨_, rfl⟩
      rw [hx] at HC
      rw [hz] at HR'
      have q1 : (m : Int) - (i : Int) = (x : Int) := by omega
      have q3 : (i : Int) - (j : Int) = (z : Int) := by omega
      clear hx hz
      have t1 : ((i : Int) != (j : Int)) = true := by simp; omega
      have t2 : decide ((j : Int) < (i : Int)) = true := by simp; omega
      go_wp2_with fail
      refine HC.out.mono ?_
      rintro e w1 ⟨rfl, hg1, hh1⟩
      have HG1 := Lib.hid (grownBy_trans HG.out hg1)
      have HH1 := Lib.hid hh1
      clear hg1 hh1
      go_wp2_with fail
      go_roundw
      case rel => exact ⟨z, j, _, by first | rfl | go_num, by first | rfl | go_num, HR', HG1, HH1⟩
      case measure => simp [intOf]; omega
end Go.Proofs.YtemeppfikpafbaaGreat

/- slices.symMergeCmpFunc (135): two neighbouring ascending stretches become one, stably. -/
namespace Go.Proofs.YtemeppfikpafbaaGreat
open Go.RowKit Go.Sort
variable {CP : Nat} {V : Int × Int → Prop} {G : Int × Int → Fnd}
theorem swp_comm (d : Array (Int × Int)) (i j : Nat) : swp d i j = swp d j i := by
  by_cases h : i = j
  · subst h; rfl
  · exact Array.setIfInBounds_comm _ _ h
set_option maxHeartbeats 2000000 in
set_option maxRecDepth 100000 in
theorem sym_one (X : List (Int × Int)) (p : Int × Int) (Q Z : List (Int × Int)) (B off cap a m b N : Nat) (w : World) (hX : X.length = a) (hm : a + 1 = m) (hQ : m + Q.length = b) (hmb : m < b) (hN : (X ++ [p] ++ Q ++ Z).length = N) (hsz : N < 4294967296) (hsQ : Srt Q)
    (hH : HoldF CP V G w B off (X ++ [p] ++ Q ++ Z).toArray) :
    Calls Tryz.prog 85 #[.slice (some ⟨B, off, none⟩) N cap, .int .i64 a, .int .i64 m, .int .i64 b, .func (.func 33) #[] #[.pointer (some ⟨CP, 0, none⟩)]] w fun e w' => e = .returned (.tuple #[]) ∧ w.grownBy w' (some B) ∧ ∃ R, Merged [p] Q R ∧ HoldF CP V G w' B off (X ++ R ++ Z).toArray := by
  have HH := Lib.hid hH; clear hH
  have HS := Lib.hid (show (X ++ [p] ++ Q ++ Z).toArray.size = N by rw [List.size_toArray]; exact hN)
  have HF := Lib.hid (show ∀ i, m ≤ i → i ≤ b → (i = m ∨ (X ++ [p] ++ Q ++ Z).toArray[i - 1]!.1 < (X ++ [p] ++ Q ++ Z).toArray[a]!.1) → (i = b ∨ (X ++ [p] ++ Q ++ Z).toArray[a]!.1 ≤ (X ++ [p] ++ Q ++ Z).toArray[i]!.1) →
      ∃ Q1 Q2, Q = Q1 ++ Q2 ∧ m + Q1.length = i ∧ Merged [p] Q (Q1 ++ p :: Q2) by
    intro i h1 h2 c1 c2
    have ea : (X ++ [p] ++ Q ++ Z).toArray[a]! = p := by
      have := at_P X [p] Q Z (a := a) (t := 0) hX (by simp)
      simpa using this
    obtain ⟨P1, P2, Q1, Q2, e1, e2, l1, l2, g1, g2⟩ := sym_split X [p] Q Z a m b a i hX (by simp; omega) hQ (Nat.le_refl _) (by omega) h1 h2 (Or.inl rfl) (by rcases c1 with c | c; exact Or.inr (Or.inl c); exact Or.inr (Or.inr c)) (List.pairwise_singleton _ _) hsQ
    have l3 : P1.length = 0 := by omega
    obtain rfl := List.eq_nil_of_length_eq_zero l3
    rw [List.nil_append] at e1
    subst e1
    have hq : ∀ y ∈ Q2, p.1 ≤ y.1 := by
      have hd : Q2 = Q.drop (i - m) := by rw [e2, List.drop_append_of_le_length (by omega), List.drop_of_length_le (by omega), List.nil_append]
      rw [hd]
      refine drop_le hsQ ?_
      rcases c2 with c | c
      · left; omega
      · by_cases hb : i = b
        · left; omega
        · right
          have e3 := at_Q X [p] Q Z (m := m) (t := i - m) (by simp; omega) (by omega)
          rw [show m + (i - m) = i by omega] at e3
          rw [e3, ea] at c
          omega
    refine ⟨Q1, Q2, e2, l2, ?_⟩
    have hs := hsQ
    rw [e2] at hs
    have hs2 := List.pairwise_append.1 hs
    have := Merged.join (Merged.nilL (Q := Q1) hs2.1) (Merged.id (P := [p]) (Q := Q2) (List.pairwise_singleton _ _) hs2.2.1 (fun x hx y hy => by rw [List.mem_singleton.1 hx]; exact hq y hy)) (List.pairwise_singleton _ _) hs (fun x hx => by cases hx) g2
    rw [← e2] at this
    exact this)
  obtain ⟨D, hD⟩ : ∃ D, X ++ [p] ++ Q ++ Z = D := ⟨_, rfl⟩
  have hbN : b ≤ N := by rw [← hN]; simp only [List.length_append, List.length_singleton]; omega
  have HD := Lib.hid (And.intro hD hX)
  rw [hD] at HH HS HF
  clear hD hN hX hQ hsQ
  have s1 : (m : Int) - (a : Int) = 1 := by omega
  have HMA := Lib.hid hm
  have ham : a < m := by omega
  clear hm
  go_enter Tryz.func85, Tryz.ntmps85
  go_wp2_with fail
  go_loopw [10, 11] (fun vi vj wr => ∃ i j : Nat, vi = .int .i64 i ∧ vj = .int .i64 j ∧ m ≤ i ∧ i ≤ j ∧ j ≤ b ∧ Hid (w.grownBy wr (some B)) ∧ Hid (HoldF CP V G wr B off D.toArray) ∧ Hid ((i = m ∨ D.toArray[i - 1]!.1 < D.toArray[a]!.1) ∧ (j = b ∨ D.toArray[a]!.1 ≤ D.toArray[j]!.1))) (fun vi vj _ => (intOf vj).toNat - (intOf vi).toNat)
  case atStart => exact ⟨m, b, rfl, rfl, Nat.le_refl _, by omega, Nat.le_refl _, Lib.hid (World.grownBy.refl _ _), HH, Lib.hid ⟨Or.inl rfl, Or.inl rfl⟩⟩
  case round =>
    obtain ⟨i, j, rfl, rfl, h1, h2, h3, HG, HK, HJ⟩ := hrel
    clear s1
    by_cases hlt : i < j
    · skip
      obtain ⟨c, hc⟩ : ∃ c : Nat, ((i : Int) + j) / 2 = c := ⟨(i + j) / 2, by omega⟩
      have hc1 : i ≤ c := by omega
      have hc2 : c < j := by omega

      have c1 := HK.out.at c (by rw [HS.out]; omega)
      have c2 := HK.out.at a (by rw [HS.out]; omega)
      have hv1 := HK.out.mem c (by rw [HS.out]; omega)
      have hv2 := HK.out.mem a (by rw [HS.out]; omega)
      generalize hx : D.toArray[c]! = x at *
      generalize hy : D.toArray[a]! = y at *
      have HXY := Lib.hid (And.intro hx hy)
      clear hx hy
      have HCM := Lib.hid (fun W (hW : More wr W) => HK.out.cmp x y W hv1 hv2 (grownBy_more (World.grownBy.refl _ _) hW))
      clear hv1 hv2
      obtain ⟨p0, p1, p2, f0, f1, f2⟩ := c1
      obtain ⟨q0, q1, q2, f3, f4, f5⟩ := c2
      have hBr : B < wr.heap.size := cell_lt p0
      have s0 : wr.drew.cell? ⟨B, off + c * 3, none⟩ = some (.slice (G x).ua (G x).un (G x).uc) := p0
      have s1 : wr.drew.cell? ⟨B, off + c * 3 + 1, none⟩ = some (.slice (G x).ha (G x).hn (G x).hc) := p1
      have s2 : wr.drew.cell? ⟨B, off + c * 3 + 2, none⟩ = some (.int .i64 (G x).n) := p2
      have s3 : wr.drew.cell? ⟨B, off + a * 3, none⟩ = some (.slice (G y).ua (G y).un (G y).uc) := q0
      have s4 : wr.drew.cell? ⟨B, off + a * 3 + 1, none⟩ = some (.slice (G y).ha (G y).hn (G y).hc) := q1
      have s5 : wr.drew.cell? ⟨B, off + a * 3 + 2, none⟩ = some (.int .i64 (G y).n) := q2
      have z1 : (c : Int) < (N : Int) := by omega
      have z2 : (a : Int) < (N : Int) := by omega
      clear f0 f1 f2 f3 f4 f5
      by_cases hk : x.1 < y.1
      · have t1 : decide (cmpI x.1 y.1 < 0) = true := by simp [cmpI_neg, hk]
        have HC := Lib.hid hk; clear hk
        go_wp2_with fail
        clear hc
        go_region_held3 (fun wx => wx.cell? ⟨B, off + c * 3, none⟩ = some (.slice (G x).ua (G x).un (G x).uc) ∧ wx.cell? ⟨B, off + c * 3 + 1, none⟩ = some (.slice (G x).ha (G x).hn (G x).hc) ∧ wx.cell? ⟨B, off + c * 3 + 2, none⟩ = some (.int .i64 (G x).n) ∧ wx.cell? ⟨B, off + a * 3, none⟩ = some (.slice (G y).ua (G y).un (G y).uc) ∧ wx.cell? ⟨B, off + a * 3 + 1, none⟩ = some (.slice (G y).ha (G y).hn (G y).hc) ∧ wx.cell? ⟨B, off + a * 3 + 2, none⟩ = some (.int .i64 (G y).n)) (first | with_reducible exact ⟨s0, s1, s2, s3, s4, s5⟩ | with_reducible exact ⟨k0, k1, k2, k3, k4, k5⟩) (first | (go_at_call 33; refine (HCM.out _ (more_drew wr)).mono ?_; rintro e w1 ⟨rfl, hw1⟩; have k0 := hw1.cell s0; have k1 := hw1.cell s1; have k2 := hw1.cell s2; have k3 := hw1.cell s3; have k4 := hw1.cell s4; have k5 := hw1.cell s5))
        have HG2 := Lib.hid (grownBy_more (grownBy_more HG.out (more_drew wr)) hw1)
        have HN2 := Lib.hid (HK.out.more (more_trans (more_drew wr) hw1) hBr)
        clear hw1 p0 p1 p2 q0 q1 q2 s0 s1 s2 s3 s4 s5 k0 k1 k2 k3 k4 k5
        go_wp2_with fail
        go_roundw
        case rel => exact ⟨c + 1, j, by go_num, rfl, by omega, by omega, by omega, HG2, HN2, Lib.hid ⟨Or.inr (by have hcc := HC.out; simp only [Nat.add_sub_cancel, HXY.out.1]; omega), HJ.out.2⟩⟩
        case measure => simp [intOf]; omega
      · have t1 : decide (cmpI x.1 y.1 < 0) = false := by simp [cmpI_neg, hk]
        have HC := Lib.hid hk; clear hk
        go_wp2_with fail
        clear hc
        go_region_held3 (fun wx => wx.cell? ⟨B, off + c * 3, none⟩ = some (.slice (G x).ua (G x).un (G x).uc) ∧ wx.cell? ⟨B, off + c * 3 + 1, none⟩ = some (.slice (G x).ha (G x).hn (G x).hc) ∧ wx.cell? ⟨B, off + c * 3 + 2, none⟩ = some (.int .i64 (G x).n) ∧ wx.cell? ⟨B, off + a * 3, none⟩ = some (.slice (G y).ua (G y).un (G y).uc) ∧ wx.cell? ⟨B, off + a * 3 + 1, none⟩ = some (.slice (G y).ha (G y).hn (G y).hc) ∧ wx.cell? ⟨B, off + a * 3 + 2, none⟩ = some (.int .i64 (G y).n)) (first | with_reducible exact ⟨s0, s1, s2, s3, s4, s5⟩ | with_reducible exact ⟨k0, k1, k2, k3, k4, k5⟩) (first | (go_at_call 33; refine (HCM.out _ (more_drew wr)).mono ?_; rintro e w1 ⟨rfl, hw1⟩; have k0 := hw1.cell s0; have k1 := hw1.cell s1; have k2 := hw1.cell s2; have k3 := hw1.cell s3; have k4 := hw1.cell s4; have k5 := hw1.cell s5))
        have HG2 := Lib.hid (grownBy_more (grownBy_more HG.out (more_drew wr)) hw1)
        have HN2 := Lib.hid (HK.out.more (more_trans (more_drew wr) hw1) hBr)
        clear hw1 p0 p1 p2 q0 q1 q2 s0 s1 s2 s3 s4 s5 k0 k1 k2 k3 k4 k5
        go_wp2_with fail
        go_roundw
        case rel => exact ⟨i, c, rfl, by go_num, by omega, by omega, by omega, HG2, HN2, Lib.hid ⟨HJ.out.1, Or.inr (by have hcc := HC.out; simp only [HXY.out.1]; omega)⟩⟩
        case measure => simp [intOf]; omega
    · obtain rfl : j = i := by omega
      obtain ⟨Q1, Q2, e2, l2, hM⟩ := HF.out j h1 h3 HJ.out.1 HJ.out.2
      have HM := Lib.hid hM; clear hM
      have HK0 := Lib.hid (show HoldF CP V G wr B off (X ++ (Q1.take 0 ++ p :: (Q1.drop 0 ++ Q2)) ++ Z).toArray by
        have := HK.out
        rw [← HD.out.1, e2] at this
        simpa using this)
      have HL := Lib.hid (show (X ++ Q1 ++ Q2 ++ Z).length + 1 = N ∧ X.length = a by
        refine ⟨?_, HD.out.2⟩
        have := HS.out
        rw [← HD.out.1, e2, List.size_toArray] at this
        simp only [List.length_append, List.length_singleton] at this ⊢
        omega)
      obtain ⟨q, hq⟩ : ∃ q, Q1.length = q := ⟨_, rfl⟩
      have hjq : j = a + 1 + q := by have := HMA.out; omega
      have s2 : (j : Int) - 1 = ((a + q : Nat) : Int) := by omega
      have haq : a + q + 1 ≤ N := by omega
      have HQ := Lib.hid hq
      obtain ⟨wo, rfl⟩ : ∃ wo : World, wo = wr := ⟨_, rfl⟩
      clear hq hjq HK HF HJ HH HD e2 l2
      obtain ⟨u, hu⟩ : ∃ u : Nat, a + q = u := ⟨_, rfl⟩
      rw [hu] at s2 haq
      have HU := Lib.hid hu; clear hu
      go_wp2_with fail
      go_loopw [13] (fun vk wr => ∃ k t : Nat, vk = .int .i64 k ∧ Hid (k = a + t) ∧ k ≤ u ∧ Hid (w.grownBy wr (some B)) ∧ Hid (HoldF CP V G wr B off (X ++ (Q1.take t ++ p :: (Q1.drop t ++ Q2)) ++ Z).toArray)) (fun vk _ => u - (intOf vk).toNat)
      case atStart => exact ⟨a, 0, rfl, Lib.hid rfl, by have := HU.out; omega, HG, HK0⟩
      case round =>
        obtain ⟨k, t, rfl, HT, hku, HGK, HKK⟩ := hrel
        by_cases hlt' : k < u
        · have ht : t < Q1.length := by have := HT.out; have := HU.out; have := HQ.out; omega
          have e1 : X ++ (Q1.take t ++ p :: (Q1.drop t ++ Q2)) ++ Z = (X ++ Q1.take t) ++ p :: ([] ++ Q1[t] :: (Q1.drop (t + 1) ++ Q2 ++ Z)) := by
            rw [List.drop_eq_getElem_cons (l := Q1) (i := t) ht]; simp only [List.append_assoc, List.cons_append, List.nil_append]
          have e2 : X ++ (Q1.take (t + 1) ++ p :: (Q1.drop (t + 1) ++ Q2)) ++ Z = (X ++ Q1.take t) ++ Q1[t] :: ([] ++ p :: (Q1.drop (t + 1) ++ Q2 ++ Z)) := by
            rw [List.take_succ_eq_append_getElem (l := Q1) (i := t) ht]; simp only [List.append_assoc, List.cons_append, List.nil_append]
          have l1 : (X ++ Q1.take t).length = k := by have := HT.out; have := HL.out.2; simp; omega
          have hp := get_app (X ++ Q1.take t) p ([] ++ Q1[t] :: (Q1.drop (t + 1) ++ Q2 ++ Z)) k l1
          have hq := get_app2 (X ++ Q1.take t) p [] Q1[t] (Q1.drop (t + 1) ++ Q2 ++ Z) (k + 1) (by simp only [List.length_nil]; omega)
          have hs := swp_app (X ++ Q1.take t) p [] Q1[t] (Q1.drop (t + 1) ++ Q2 ++ Z) k (k + 1) l1 (by simp only [List.length_nil]; omega)
          rw [← e1] at hp hq hs
          rw [← e2] at hs
          have hsz1 : (X ++ (Q1.take t ++ p :: (Q1.drop t ++ Q2)) ++ Z).toArray.size = N := by
            have := HL.out.1
            rw [List.size_toArray]
            simp only [List.length_append, List.length_cons, List.length_take, List.length_drop] at this ⊢
            omega
          have c1 := HKK.out.at k (by omega)
          have c2 := HKK.out.at (k + 1) (by omega)
          have HN := Lib.hid (show HoldF CP V G (swW3 wr B off k (k + 1) (G p) (G Q1[t])) B off (X ++ (Q1.take (t + 1) ++ p :: (Q1.drop (t + 1) ++ Q2)) ++ Z).toArray by
            have := swW3_holds HKK.out (i := k) (j := k + 1) (by omega) (by omega)
            rw [hp, hq, hs] at this
            exact this)
          rw [hp] at c1
          rw [hq] at c2
          have HN2 := Lib.hid (swW3_grown HGK.out off k (k + 1) (G p) (G Q1[t]))
          have HT2 := Lib.hid (show k + 1 = a + (t + 1) by have := HT.out; omega)
          clear hp hq hs e1 e2 l1 hsz1 HKK HGK
          generalize Q1[t] = y at *
          obtain ⟨p0, p1, p2, f0, f1, f2⟩ := c1
          obtain ⟨q0, q1, q2, f3, f4, f5⟩ := c2
          have b1 : (k : Int) < N := by omega
          have b2 : (k : Int) + 1 < N := by omega
          go_wp2_with fail
          go_region
          go_wp2_with fail
          go_roundw
          case rel => exact ⟨k + 1, t + 1, by go_num, HT2, by omega, HN2, HN⟩
          case measure => simp [intOf]; omega
        · go_wp2_with fail
          refine bodyPost_ret (results_none rfl _ _ _) rfl ?_
          refine ⟨rfl, HGK.out, _, HM.out, ?_⟩
          have ht : t = Q1.length := by have := HT.out; have := HU.out; have := HQ.out; omega
          have := HKK.out
          rw [ht, List.take_length, List.drop_length, List.nil_append] at this
          exact this
end Go.Proofs.YtemeppfikpafbaaGreat

/- slices.symMergeCmpFunc (135): two neighbouring ascending stretches become one, stably. -/
namespace Go.Proofs.YtemeppfikpafbaaGreat
open Go.RowKit Go.Sort
variable {CP : Nat} {V : Int × Int → Prop} {G : Int × Int → Fnd}
set_option maxHeartbeats 2000000 in
set_option maxRecDepth 100000 in
theorem sym_last (X P : List (Int × Int)) (q : Int × Int) (Z : List (Int × Int)) (B off cap a m b N : Nat) (w : World) (hX : X.length = a) (hP : a + P.length = m) (hb : m + 1 = b) (ham : a + 1 < m) (hN : (X ++ P ++ [q] ++ Z).length = N) (hsz : N < 4294967296) (hsP : Srt P)
    (hH : HoldF CP V G w B off (X ++ P ++ [q] ++ Z).toArray) :
    Calls Tryz.prog 85 #[.slice (some ⟨B, off, none⟩) N cap, .int .i64 a, .int .i64 m, .int .i64 b, .func (.func 33) #[] #[.pointer (some ⟨CP, 0, none⟩)]] w fun e w' => e = .returned (.tuple #[]) ∧ w.grownBy w' (some B) ∧ ∃ R, Merged P [q] R ∧ HoldF CP V G w' B off (X ++ R ++ Z).toArray := by
  have HH := Lib.hid hH; clear hH
  have HS := Lib.hid (show (X ++ P ++ [q] ++ Z).toArray.size = N by rw [List.size_toArray]; exact hN)
  have HF := Lib.hid (show ∀ i, a ≤ i → i ≤ m → (i = a ∨ (X ++ P ++ [q] ++ Z).toArray[i - 1]!.1 ≤ (X ++ P ++ [q] ++ Z).toArray[m]!.1) → (i = m ∨ (X ++ P ++ [q] ++ Z).toArray[m]!.1 < (X ++ P ++ [q] ++ Z).toArray[i]!.1) →
      ∃ P1 P2, P = P1 ++ P2 ∧ a + P1.length = i ∧ Merged P [q] (P1 ++ q :: P2) by
    intro i h1 h2 c1 c2
    have ea : (X ++ P ++ [q] ++ Z).toArray[m]! = q := by
      have := at_Q X P [q] Z (m := m) (t := 0) (by omega) (by simp)
      simpa using this
    obtain ⟨P1, P2, Q1, Q2, e1, e2, l1, l2, g1, g2⟩ := sym_split X P [q] Z a m b i b hX hP (by simpa using hb) h1 h2 (by omega) (Nat.le_refl _) (Or.inr (Or.inl rfl)) (by rcases c2 with c | c; exact Or.inl c; exact Or.inr (Or.inr (by rw [← hb, Nat.add_sub_cancel]; exact c))) hsP (List.pairwise_singleton _ _)
    have l3 : Q2.length = 0 := by
      have := congrArg List.length e2
      simp only [List.length_append, List.length_singleton] at this
      omega
    obtain rfl := List.eq_nil_of_length_eq_zero l3
    rw [List.append_nil] at e2
    subst e2
    have hq : ∀ x ∈ P1, x.1 ≤ q.1 := by
      have hd : P1 = P.take (i - a) := by rw [e1, List.take_append_of_le_length (by omega), List.take_of_length_le (by omega)]
      rw [hd]
      refine take_le hsP (by omega) ?_
      rcases c1 with c | c
      · left; omega
      · by_cases hb : i = a
        · left; omega
        · right
          have e3 := at_P X P [q] Z (a := a) (t := i - a - 1) hX (by omega)
          rw [show a + (i - a - 1) = i - 1 by omega] at e3
          rw [e3, ea] at c
          omega
    refine ⟨P1, P2, e1, l1, ?_⟩
    have hs := hsP
    rw [e1] at hs
    have hs2 := List.pairwise_append.1 hs
    have := Merged.join (Merged.id (P := P1) (Q := [q]) hs2.1 (List.pairwise_singleton _ _) (fun x hx y hy => by rw [List.mem_singleton.1 hy]; exact hq x hx)) (Merged.nilR (P := P2) hs2.2.1) hs (by rw [List.append_nil]; exact List.pairwise_singleton _ _) (fun x _ y hy => by cases hy) g2
    rw [← e1, List.append_nil] at this
    simpa [List.append_assoc] using this)
  obtain ⟨D, hD⟩ : ∃ D, X ++ P ++ [q] ++ Z = D := ⟨_, rfl⟩
  have hbN : b ≤ N := by rw [← hN]; simp only [List.length_append, List.length_singleton]; omega
  have HD := Lib.hid (And.intro hD (And.intro hX hP))
  rw [hD] at HH HS HF
  clear hD hN hX hP hsP
  obtain ⟨g, hg⟩ : ∃ g : Nat, (m : Int) - (a : Int) = g := ⟨m - a, by omega⟩
  have hg2 : ((g : Int) == 1) = false := by simp; omega
  have s1 : (b : Int) - (m : Int) = 1 := by omega
  have hmb : m < b := by omega
  clear hb
  go_enter Tryz.func85, Tryz.ntmps85
  go_wp2_with fail
  go_loopw [14, 15] (fun vi vj wr => ∃ i j : Nat, vi = .int .i64 i ∧ vj = .int .i64 j ∧ a ≤ i ∧ i ≤ j ∧ j ≤ m ∧ Hid (w.grownBy wr (some B)) ∧ Hid (HoldF CP V G wr B off D.toArray) ∧ Hid ((i = a ∨ D.toArray[i - 1]!.1 ≤ D.toArray[m]!.1) ∧ (j = m ∨ D.toArray[m]!.1 < D.toArray[j]!.1))) (fun vi vj _ => (intOf vj).toNat - (intOf vi).toNat)
  case atStart => exact ⟨a, m, rfl, rfl, Nat.le_refl _, by omega, Nat.le_refl _, Lib.hid (World.grownBy.refl _ _), HH, Lib.hid ⟨Or.inl rfl, Or.inl rfl⟩⟩
  case round =>
    obtain ⟨i, j, rfl, rfl, h1, h2, h3, HG, HK, HJ⟩ := hrel
    clear s1 hg hg2
    by_cases hlt : i < j
    · skip
      obtain ⟨c, hc⟩ : ∃ c : Nat, ((i : Int) + j) / 2 = c := ⟨(i + j) / 2, by omega⟩
      have hc1 : i ≤ c := by omega
      have hc2 : c < j := by omega

      have c1 := HK.out.at m (by rw [HS.out]; omega)
      have c2 := HK.out.at c (by rw [HS.out]; omega)
      have hv1 := HK.out.mem m (by rw [HS.out]; omega)
      have hv2 := HK.out.mem c (by rw [HS.out]; omega)
      generalize hx : D.toArray[m]! = x at *
      generalize hy : D.toArray[c]! = y at *
      have HXY := Lib.hid (And.intro hx hy)
      clear hx hy
      have HCM := Lib.hid (fun W (hW : More wr W) => HK.out.cmp x y W hv1 hv2 (grownBy_more (World.grownBy.refl _ _) hW))
      clear hv1 hv2
      obtain ⟨p0, p1, p2, f0, f1, f2⟩ := c1
      obtain ⟨q0, q1, q2, f3, f4, f5⟩ := c2
      have hBr : B < wr.heap.size := cell_lt p0
      have s0 : wr.drew.cell? ⟨B, off + m * 3, none⟩ = some (.slice (G x).ua (G x).un (G x).uc) := p0
      have s1 : wr.drew.cell? ⟨B, off + m * 3 + 1, none⟩ = some (.slice (G x).ha (G x).hn (G x).hc) := p1
      have s2 : wr.drew.cell? ⟨B, off + m * 3 + 2, none⟩ = some (.int .i64 (G x).n) := p2
      have s3 : wr.drew.cell? ⟨B, off + c * 3, none⟩ = some (.slice (G y).ua (G y).un (G y).uc) := q0
      have s4 : wr.drew.cell? ⟨B, off + c * 3 + 1, none⟩ = some (.slice (G y).ha (G y).hn (G y).hc) := q1
      have s5 : wr.drew.cell? ⟨B, off + c * 3 + 2, none⟩ = some (.int .i64 (G y).n) := q2
      have z1 : (m : Int) < (N : Int) := by omega
      have z2 : (c : Int) < (N : Int) := by omega
      clear f0 f1 f2 f3 f4 f5
      by_cases hk : x.1 < y.1
      · have t1 : decide (cmpI x.1 y.1 < 0) = true := by simp [cmpI_neg, hk]
        have HC := Lib.hid hk; clear hk
        go_wp2_with fail
        clear hc
        go_region_held3 (fun wx => wx.cell? ⟨B, off + m * 3, none⟩ = some (.slice (G x).ua (G x).un (G x).uc) ∧ wx.cell? ⟨B, off + m * 3 + 1, none⟩ = some (.slice (G x).ha (G x).hn (G x).hc) ∧ wx.cell? ⟨B, off + m * 3 + 2, none⟩ = some (.int .i64 (G x).n) ∧ wx.cell? ⟨B, off + c * 3, none⟩ = some (.slice (G y).ua (G y).un (G y).uc) ∧ wx.cell? ⟨B, off + c * 3 + 1, none⟩ = some (.slice (G y).ha (G y).hn (G y).hc) ∧ wx.cell? ⟨B, off + c * 3 + 2, none⟩ = some (.int .i64 (G y).n)) (first | with_reducible exact ⟨s0, s1, s2, s3, s4, s5⟩ | with_reducible exact ⟨k0, k1, k2, k3, k4, k5⟩) (first | (go_at_call 33; refine (HCM.out _ (more_drew wr)).mono ?_; rintro e w1 ⟨rfl, hw1⟩; have k0 := hw1.cell s0; have k1 := hw1.cell s1; have k2 := hw1.cell s2; have k3 := hw1.cell s3; have k4 := hw1.cell s4; have k5 := hw1.cell s5))
        have HG2 := Lib.hid (grownBy_more (grownBy_more HG.out (more_drew wr)) hw1)
        have HN2 := Lib.hid (HK.out.more (more_trans (more_drew wr) hw1) hBr)
        clear hw1 p0 p1 p2 q0 q1 q2 s0 s1 s2 s3 s4 s5 k0 k1 k2 k3 k4 k5
        go_wp2_with fail
        go_roundw
        case rel => exact ⟨i, c, rfl, by go_num, by omega, by omega, by omega, HG2, HN2, Lib.hid ⟨HJ.out.1, Or.inr (by have hcc := HC.out; simp only [HXY.out.2]; omega)⟩⟩
        case measure => simp [intOf]; omega
      · have t1 : decide (cmpI x.1 y.1 < 0) = false := by simp [cmpI_neg, hk]
        have HC := Lib.hid hk; clear hk
        go_wp2_with fail
        clear hc
        go_region_held3 (fun wx => wx.cell? ⟨B, off + m * 3, none⟩ = some (.slice (G x).ua (G x).un (G x).uc) ∧ wx.cell? ⟨B, off + m * 3 + 1, none⟩ = some (.slice (G x).ha (G x).hn (G x).hc) ∧ wx.cell? ⟨B, off + m * 3 + 2, none⟩ = some (.int .i64 (G x).n) ∧ wx.cell? ⟨B, off + c * 3, none⟩ = some (.slice (G y).ua (G y).un (G y).uc) ∧ wx.cell? ⟨B, off + c * 3 + 1, none⟩ = some (.slice (G y).ha (G y).hn (G y).hc) ∧ wx.cell? ⟨B, off + c * 3 + 2, none⟩ = some (.int .i64 (G y).n)) (first | with_reducible exact ⟨s0, s1, s2, s3, s4, s5⟩ | with_reducible exact ⟨k0, k1, k2, k3, k4, k5⟩) (first | (go_at_call 33; refine (HCM.out _ (more_drew wr)).mono ?_; rintro e w1 ⟨rfl, hw1⟩; have k0 := hw1.cell s0; have k1 := hw1.cell s1; have k2 := hw1.cell s2; have k3 := hw1.cell s3; have k4 := hw1.cell s4; have k5 := hw1.cell s5))
        have HG2 := Lib.hid (grownBy_more (grownBy_more HG.out (more_drew wr)) hw1)
        have HN2 := Lib.hid (HK.out.more (more_trans (more_drew wr) hw1) hBr)
        clear hw1 p0 p1 p2 q0 q1 q2 s0 s1 s2 s3 s4 s5 k0 k1 k2 k3 k4 k5
        go_wp2_with fail
        go_roundw
        case rel => exact ⟨c + 1, j, by go_num, rfl, by omega, by omega, by omega, HG2, HN2, Lib.hid ⟨Or.inr (by have hcc := HC.out; simp only [Nat.add_sub_cancel, HXY.out.2]; omega), HJ.out.2⟩⟩
        case measure => simp [intOf]; omega
    · obtain rfl : j = i := by omega
      obtain ⟨P1, P2, e2, l2, hM⟩ := HF.out j h1 h3 HJ.out.1 HJ.out.2
      have HM := Lib.hid hM; clear hM
      have HK0 := Lib.hid (show HoldF CP V G wr B off (X ++ (P1 ++ (P2.take P2.length ++ q :: P2.drop P2.length)) ++ Z).toArray by
        have := HK.out
        rw [← HD.out.1, e2] at this
        simpa using this)
      have HL := Lib.hid (show (X ++ P1 ++ P2 ++ Z).length + 1 = N ∧ X.length + P1.length = j ∧ j + P2.length = m by
        have h5 := HD.out.2
        have h6 := HS.out
        rw [← HD.out.1, e2, List.size_toArray] at h6
        rw [e2] at h5
        simp only [List.length_append, List.length_singleton] at h5 h6 ⊢
        omega)
      obtain ⟨wo, rfl⟩ : ∃ wo : World, wo = wr := ⟨_, rfl⟩
      clear HK HF HJ HH HD e2 l2
      go_wp2_with fail
      go_loopw [17] (fun vk wr => ∃ k t : Nat, vk = .int .i64 k ∧ Hid (k = j + t ∧ t ≤ P2.length) ∧ j ≤ k ∧ k ≤ m ∧ Hid (w.grownBy wr (some B)) ∧ Hid (HoldF CP V G wr B off (X ++ (P1 ++ (P2.take t ++ q :: P2.drop t)) ++ Z).toArray)) (fun vk _ => (intOf vk).toNat)
      case atStart => exact ⟨m, P2.length, rfl, Lib.hid ⟨HL.out.2.2.symm, Nat.le_refl _⟩, h3, Nat.le_refl _, HG, HK0⟩
      case round =>
        obtain ⟨k, t, rfl, HT, hjk, hkm, HGK, HKK⟩ := hrel
        by_cases hlt' : j < k
        · obtain ⟨kp, rfl⟩ : ∃ kp, k = kp + 1 := ⟨k - 1, by omega⟩
          obtain ⟨tp, htp⟩ : ∃ tp, t = tp + 1 := ⟨t - 1, by have := HT.out; omega⟩
          subst htp
          have ht : tp < P2.length := by have := HT.out.2; omega
          have e1 : X ++ (P1 ++ (P2.take (tp + 1) ++ q :: P2.drop (tp + 1))) ++ Z = (X ++ P1 ++ P2.take tp) ++ P2[tp] :: ([] ++ q :: (P2.drop (tp + 1) ++ Z)) := by
            rw [List.take_succ_eq_append_getElem (l := P2) (i := tp) ht]; simp only [List.append_assoc, List.cons_append, List.nil_append]
          have e2 : X ++ (P1 ++ (P2.take tp ++ q :: P2.drop tp)) ++ Z = (X ++ P1 ++ P2.take tp) ++ q :: ([] ++ P2[tp] :: (P2.drop (tp + 1) ++ Z)) := by
            rw [List.drop_eq_getElem_cons (l := P2) (i := tp) ht]; simp only [List.append_assoc, List.cons_append, List.nil_append]
          have l1 : (X ++ P1 ++ P2.take tp).length = kp := by have := HT.out.1; have := HL.out.2.1; simp only [List.length_append, List.length_take]; omega
          have hp := get_app (X ++ P1 ++ P2.take tp) P2[tp] ([] ++ q :: (P2.drop (tp + 1) ++ Z)) kp l1
          have hq := get_app2 (X ++ P1 ++ P2.take tp) P2[tp] [] q (P2.drop (tp + 1) ++ Z) (kp + 1) (by simp only [List.length_nil]; omega)
          have hs := swp_app (X ++ P1 ++ P2.take tp) P2[tp] [] q (P2.drop (tp + 1) ++ Z) kp (kp + 1) l1 (by simp only [List.length_nil]; omega)
          rw [← e1] at hp hq hs
          rw [← e2] at hs
          have hsz1 : (X ++ (P1 ++ (P2.take (tp + 1) ++ q :: P2.drop (tp + 1))) ++ Z).toArray.size = N := by
            have := HL.out.1
            rw [List.size_toArray]
            simp only [List.length_append, List.length_cons, List.length_take, List.length_drop] at this ⊢
            omega
          have c1 := HKK.out.at kp (by omega)
          have c2 := HKK.out.at (kp + 1) (by omega)
          have HN := Lib.hid (show HoldF CP V G (swW3 wr B off (kp + 1) kp (G q) (G P2[tp])) B off (X ++ (P1 ++ (P2.take tp ++ q :: P2.drop tp)) ++ Z).toArray by
            have := swW3_holds HKK.out (i := kp + 1) (j := kp) (by omega) (by omega)
            rw [hp, hq, swp_comm, hs] at this
            exact this)
          rw [hp] at c1
          rw [hq] at c2
          have HN2 := Lib.hid (swW3_grown HGK.out off (kp + 1) kp (G q) (G P2[tp]))
          have HT2 := Lib.hid (show kp = j + tp ∧ tp ≤ P2.length by have := HT.out; omega)
          clear hp hq hs e1 e2 l1 hsz1 HKK HGK
          generalize P2[tp] = y at *
          obtain ⟨p0, p1, p2, f0, f1, f2⟩ := c1
          obtain ⟨q0, q1, q2, f3, f4, f5⟩ := c2
          have b1 : (kp : Int) < N := by omega
          have b2 : (kp : Int) + 1 < N := by omega
          have hwp : IntKind.i64.wrap (kp : Int) = (kp : Int) := by rw [IntKind.wrap_i64]; omega
          go_wp2_with fail
          go_region
          go_wp2_with fail
          go_roundw
          case rel => exact ⟨kp, tp, by first | rfl | go_num, HT2, by omega, by omega, HN2, HN⟩
          case measure => simp [intOf]
        · go_wp2_with fail
          refine bodyPost_ret (results_none rfl _ _ _) rfl ?_
          refine ⟨rfl, HGK.out, _, HM.out, ?_⟩
          have ht : t = 0 := by have := HT.out; omega
          have := HKK.out
          rw [ht, List.take_zero, List.drop_zero, List.nil_append] at this
          exact this
def SymSaid (CP : Nat) (V : Int × Int → Prop) (G : Int × Int → Fnd) (n : Nat) : Prop := ∀ (X P Q Z : List (Int × Int)) (B off cap a m b N : Nat) (w : World), b ≤ a + n → X.length = a → a + P.length = m → m + Q.length = b → a < m → m < b → (X ++ P ++ Q ++ Z).length = N → N < 4294967296 → Srt P → Srt Q → HoldF CP V G w B off (X ++ P ++ Q ++ Z).toArray →
    Calls Tryz.prog 85 #[.slice (some ⟨B, off, none⟩) N cap, .int .i64 a, .int .i64 m, .int .i64 b, .func (.func 33) #[] #[.pointer (some ⟨CP, 0, none⟩)]] w fun e w' => e = .returned (.tuple #[]) ∧ w.grownBy w' (some B) ∧ ∃ R, Merged P Q R ∧ HoldF CP V G w' B off (X ++ R ++ Z).toArray
end Go.Proofs.YtemeppfikpafbaaGreat

