/- slices.rotateCmpFunc (142): two neighbouring stretches change their places. -/
import Derived.Test.YtekhoanjpnjaeaaSwapR
namespace Go.Proofs.Ytekhoanjpnjaeaa
open Go.RowKit Go.Sort

/-- What a round of rotate keeps: the stretches P and Q in the middle, and what is wanted in the end. -/
structure RotI (T : List (Int × Int)) (N m i j : Nat) (D : List (Int × Int)) : Prop where
  ex : ∃ X P Q Z : List (Int × Int), D = X ++ P ++ Q ++ Z ∧ T = X ++ Q ++ P ++ Z ∧ X.length + i = m ∧ P.length = i ∧ Q.length = j
  len : D.length = N
  pos : 0 < i ∧ 0 < j ∧ i ≤ m ∧ m + j ≤ N

theorem RotI.left {T D : List (Int × Int)} {N m i j : Nat} (h : RotI T N m i j D) (hij : j < i) :
    ∃ X P Y Q Z, D = X ++ P ++ Y ++ Q ++ Z ∧ X.length = m - i ∧ P.length = j ∧ Q.length = j ∧ m - i + j + Y.length = m ∧ RotI T N m (i - j) j (X ++ Q ++ Y ++ P ++ Z) := by
  obtain ⟨⟨X, P, Q, Z, rfl, rfl, h1, h2, h3⟩, hl, hp⟩ := h
  have l1 : (P.take j).length = j := by rw [List.length_take]; omega
  have l2 : (P.drop j).length = i - j := by rw [List.length_drop]; omega
  have e : P = P.take j ++ P.drop j := (List.take_append_drop j P).symm
  simp only [List.length_append] at hl
  refine ⟨X, P.take j, P.drop j, Q, Z, ?_, by omega, l1, h3, by omega, ⟨⟨X ++ Q, P.drop j, P.take j, Z, ?_, ?_, ?_, l2, l1⟩, ?_, by omega⟩⟩
  · conv => lhs; rw [e]
    simp
  · simp
  · conv => lhs; rw [e]
    simp
  · rw [List.length_append]; omega
  · simp only [List.length_append, l1, l2]; omega

theorem RotI.right {T D : List (Int × Int)} {N m i j : Nat} (h : RotI T N m i j D) (hij : i < j) :
    ∃ X P Y Q Z, D = X ++ P ++ Y ++ Q ++ Z ∧ X.length = m - i ∧ P.length = i ∧ Q.length = i ∧ m - i + i + Y.length = m + j - i ∧ RotI T N m i (j - i) (X ++ Q ++ Y ++ P ++ Z) := by
  obtain ⟨⟨X, P, Q, Z, rfl, rfl, h1, h2, h3⟩, hl, hp⟩ := h
  have l1 : (Q.take (j - i)).length = j - i := by rw [List.length_take]; omega
  have l2 : (Q.drop (j - i)).length = i := by rw [List.length_drop]; omega
  have e : Q = Q.take (j - i) ++ Q.drop (j - i) := (List.take_append_drop (j - i) Q).symm
  simp only [List.length_append] at hl
  refine ⟨X, P, Q.take (j - i), Q.drop (j - i), Z, ?_, by omega, h2, l2, by omega, ⟨⟨X, Q.drop (j - i), Q.take (j - i), P ++ Z, ?_, ?_, h1, l2, l1⟩, ?_, by omega⟩⟩
  · conv => lhs; rw [e]
    simp
  · simp
  · conv => lhs; rw [e]
    simp
  · simp only [List.length_append, l1, l2]; omega

theorem RotI.last {T D : List (Int × Int)} {N m i : Nat} (h : RotI T N m i i D) :
    ∃ X P Y Q Z, D = X ++ P ++ Y ++ Q ++ Z ∧ X.length = m - i ∧ P.length = i ∧ Q.length = i ∧ m - i + i + Y.length = m ∧ T = X ++ Q ++ Y ++ P ++ Z := by
  obtain ⟨⟨X, P, Q, Z, rfl, rfl, h1, h2, h3⟩, hl, hp⟩ := h
  exact ⟨X, P, [], Q, Z, by simp, by omega, h2, h3, by simp; omega, by simp⟩

set_option maxHeartbeats 1000000 in
set_option maxRecDepth 100000 in
theorem rot_any (X P Q Z : List (Int × Int)) (B off cap a m b N : Nat) (fv : Value) (w : World) (hX : X.length = a) (hP : a + P.length = m) (hQ : m + Q.length = b) (h1 : a < m) (h2 : m < b) (hN : (X ++ P ++ Q ++ Z).length = N) (hsz : N < 4294967296)
    (hH : HoldE w B off (X ++ P ++ Q ++ Z).toArray) :
    Calls Try.prog 142 #[.slice (some ⟨B, off, none⟩) N cap, .int .i64 a, .int .i64 m, .int .i64 b, fv] w fun e w' => e = .returned (.tuple #[]) ∧ w.grownBy w' (some B) ∧ HoldE w' B off (X ++ Q ++ P ++ Z).toArray := by
  have HI := Lib.hid (show RotI (X ++ Q ++ P ++ Z) N m (m - a) (b - m) (X ++ P ++ Q ++ Z) from ⟨⟨X, P, Q, Z, rfl, rfl, by omega, by omega, by omega⟩, hN, by simp only [List.length_append] at hN; omega⟩)
  have HH := Lib.hid hH; clear hH
  generalize X ++ P ++ Q ++ Z = D at *
  generalize X ++ Q ++ P ++ Z = T at *
  have hbN : b ≤ N := by have := HI.out.pos; omega
  clear hX hP hQ hN X P Q Z
  obtain ⟨i0, hi0⟩ : ∃ i0, m = a + i0 := ⟨m - a, by omega⟩
  obtain ⟨j0, hj0⟩ : ∃ j0, b = m + j0 := ⟨b - m, by omega⟩
  have e1 : m - a = i0 := by omega
  have e2 : b - m = j0 := by omega
  rw [e1, e2] at HI
  go_enter Try.func142, Try.ntmps142
  have s1 : (m : Int) - (a : Int) = (i0 : Int) := by omega
  have s2 : (b : Int) - (m : Int) = (j0 : Int) := by omega
  clear hi0 hj0 e1 e2
  go_wp2_with fail
  go_loopw [10, 11] (fun vi vj wr => ∃ (i j : Nat) (E : List (Int × Int)), vi = .int .i64 i ∧ vj = .int .i64 j ∧ Hid (RotI T N m i j E) ∧ Hid (w.grownBy wr (some B)) ∧ Hid (HoldE wr B off E.toArray)) (fun vi vj _ => (intOf vi).toNat + (intOf vj).toNat)
  case atStart => exact ⟨i0, j0, D, by first | rfl | go_num, by first | rfl | go_num, HI, Lib.hid (World.grownBy.refl _ _), HH⟩
  case round =>
    obtain ⟨i, j, E, rfl, rfl, HR, HG, HE⟩ := hrel
    have hp := HR.out.pos
    rcases Nat.lt_trichotomy i j with hij | hij | hij
    · obtain ⟨X, P, Y, Q, Z, hD, l1, l2, l3, l4, hR⟩ := HR.out.right hij
      subst hD
      have HR' := Lib.hid hR
      have HC := Lib.hid (swapR_any X P Y Q Z B off cap (m - i) (m + j - i) i N fv wr l1 l2 l3 l4 HR.out.len hsz HE.out)
      clear hR l1 l2 l3 l4
      obtain ⟨x, hx⟩ : ∃ x, m - i = x := ⟨_, rfl⟩
      obtain ⟨y, hy⟩ : ∃ y, m + j - i = y := ⟨_, rfl⟩
      obtain ⟨z, hz⟩ : ∃ z, j - i = z := ⟨_, rfl⟩
      rw [hx, hy] at HC
      rw [hz] at HR'
      have q1 : (m : Int) - (i : Int) = (x : Int) := by omega
      have q2 : (m : Int) + (j : Int) - (i : Int) = (y : Int) := by omega
      have q3 : (j : Int) - (i : Int) = (z : Int) := by omega
      clear hx hy hz
      have t1 : ((i : Int) != (j : Int)) = true := by simp; omega
      have t2 : decide ((j : Int) < (i : Int)) = false := by simp; omega
      go_wp2_with fail
      refine HC.out.mono ?_
      rintro e w1 ⟨rfl, hg1, hh1⟩
      have HG1 := Lib.hid (grownBy_trans HG.out hg1)
      have HH1 := Lib.hid hh1
      clear hg1 hh1
      go_wp2_with fail
      go_roundw
      case rel => exact ⟨i, z, _, by first | rfl | go_num, by first | rfl | go_num, HR', HG1, HH1⟩
      case measure => simp [intOf]; omega
    · subst hij
      obtain ⟨X, P, Y, Q, Z, hD, l1, l2, l3, l4, hT⟩ := HR.out.last
      subst hD
      have HC := Lib.hid (swapR_any X P Y Q Z B off cap (m - i) m i N fv wr l1 l2 l3 l4 HR.out.len hsz HE.out)
      clear l1 l2 l3 l4
      obtain ⟨x, hx⟩ : ∃ x, m - i = x := ⟨_, rfl⟩
      rw [hx] at HC
      have q1 : (m : Int) - (i : Int) = (x : Int) := by omega
      have t1 : ((i : Int) != (i : Int)) = false := by simp
      clear hx
      go_wp2_with fail
      refine HC.out.mono ?_
      rintro e w1 ⟨rfl, hg1, hh1⟩
      rw [← hT] at hh1
      have HG1 := Lib.hid (grownBy_trans HG.out hg1)
      have HH1 := Lib.hid hh1
      clear hg1 hh1
      go_wp2_with fail
      go_end0
      exact ⟨rfl, HG1.out, HH1.out⟩
    · obtain ⟨X, P, Y, Q, Z, hD, l1, l2, l3, l4, hR⟩ := HR.out.left hij
      subst hD
      have HR' := Lib.hid hR
      have HC := Lib.hid (swapR_any X P Y Q Z B off cap (m - i) m j N fv wr l1 l2 l3 l4 HR.out.len hsz HE.out)
      clear hR l1 l2 l3 l4
      obtain ⟨x, hx⟩ : ∃ x, m - i = x := ⟨_, rfl⟩
      obtain ⟨z, hz⟩ : ∃ z, i - j = z := ⟨_, rfl⟩
      rw [hx] at HC
      rw [hz] at HR'
      have q1 : (m : Int) - (i : Int) = (x : Int) := by omega
      have q3 : (i : Int) - (j : Int) = (z : Int) := by omega
      clear hx hz
      have t1 : ((i : Int) != (j : Int)) = true := by simp; omega
      have t2 : decide ((j : Int) < (i : Int)) = true := by simp; omega
      go_wp2_with fail
      refine HC.out.mono ?_
      rintro e w1 ⟨rfl, hg1, hh1⟩
      have HG1 := Lib.hid (grownBy_trans HG.out hg1)
      have HH1 := Lib.hid hh1
      clear hg1 hh1
      go_wp2_with fail
      go_roundw
      case rel => exact ⟨z, j, _, by first | rfl | go_num, by first | rfl | go_num, HR', HG1, HH1⟩
      case measure => simp [intOf]; omega
end Go.Proofs.Ytekhoanjpnjaeaa
