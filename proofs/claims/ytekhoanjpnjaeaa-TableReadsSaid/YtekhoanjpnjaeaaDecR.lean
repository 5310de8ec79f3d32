/- rootcauseref01.Uint (93), Unzigzag (94); num.Unzigzag (136), num.Int (127). -/
import Derived.Test.YtekhoanjpnjaeaaDecN
import Derived.Laws.BitsLemmas
namespace Go.Proofs.Ytekhoanjpnjaeaa
open Go.RowKit
theorem dec_add {j A : Nat} {x : Int} (hj : j ≤ 9) (h0 : 0 ≤ x) (_h1 : x ≤ 255) (hA : A < 2 ^ (7 * j)) (h9 : j = 9 → x ≤ 1) : IntKind.u64.wrap ((A : Int) + IntKind.u64.wrap (x % 128 * 2 ^ (7 * j))) = ((A + (x.toNat % 128) * 2 ^ (7 * j) : Nat) : Int) := by
  have hb : x.toNat % 128 < 128 := Nat.mod_lt _ (by omega)
  have hf := dec_fit hj hA hb (fun e => by have := h9 e; omega)
  rw [show x % 128 = ((x.toNat % 128 : Nat) : Int) by omega]
  generalize x.toNat % 128 = b at *
  rw [show ((b : Int) * 2 ^ (7 * j)) = ((b * 2 ^ (7 * j) : Nat) : Int) by rw [Int.natCast_mul, Int.natCast_pow]; rfl]
  rw [IntKind.wrap_u64, IntKind.wrap_u64]
  omega
set_option maxRecDepth 100000 in
set_option maxHeartbeats 1000000 in
theorem rUint_any (S : Nat → Prop) (l : List Int) (v : Value) (w : World) (hl : l.length ≤ maxLen) (hb : Byts l) (h : Row S w 1 l.length v (bV l)) :
    Calls Try.prog 93 #[v] w fun e w' => e = .returned (numR (decU l) .i64) ∧ w' = w := by
  obtain ⟨a, cap, rfl, hcap⟩ := h.shape
  have HR := Lib.hid h; clear h
  have HB := Lib.hid hb; clear hb
  unfold maxLen at hl
  obtain ⟨R, hR⟩ : ∃ R, decU l = R := ⟨_, rfl⟩
  rw [hR]
  have HRE := Lib.hid hR; clear hR
  go_enter Try.func93, Try.ntmps93
  go_wp2_with fail
  go_loop [5, 6] (fun acc i => ∃ j A : Nat, j ≤ l.length ∧ j ≤ 9 ∧ i = .int .i64 j ∧ acc = .int .u64 A ∧ Hid (A < 2 ^ (7 * j)) ∧ Hid (decA j A (l.drop j) = R)) (fun _ i => l.length - (intOf i).toNat)
  case atStart => exact ⟨0, 0, Nat.zero_le _, by omega, rfl, rfl, Lib.hid (by simp), HRE⟩
  case round =>
    obtain ⟨j, A, hj, hj9, rfl, rfl, HA, HD⟩ := hrel
    by_cases hlt : j < l.length
    · obtain ⟨b, off, rfl, _, _, hc⟩ := HR.out.at (by omega)
      have g0 := hc j _ (bV_get l j hlt)
      clear hc
      have HDR := Lib.hid (show decA j A (l[j] :: l.drop (j + 1)) = R by rw [← List.drop_eq_getElem_cons hlt]; exact HD.out)
      have hx := HB.out _ (List.getElem_mem hlt)
      obtain ⟨x0, x1⟩ := hx
      generalize l[j] = x at *
      by_cases h9 : j = 9 ∧ 1 < x
      · obtain ⟨rfl, hx1⟩ := h9
        have HE := Lib.hid (show R = none by rw [← HDR.out, decA_stop (Or.inl ⟨rfl, hx1⟩)])
        go_wp2_with fail
        go_ret3
        exact ⟨by rw [HE.out]; rfl, rfl⟩
      · have H9 := Lib.hid h9
        have hadd := dec_add hj9 x0 x1 HA.out (fun e => by have := H9.out; omega)
        obtain ⟨N, hN⟩ : ∃ N, A + (x.toNat % 128) * 2 ^ (7 * j) = N := ⟨_, rfl⟩
        rw [hN] at hadd
        have HN := Lib.hid hN; clear hN h9
        by_cases hz : x = 0 ∧ 0 < j
        · obtain ⟨hz1, hz2⟩ := hz
          have HE := Lib.hid (show R = none by rw [← HDR.out, decA_stop (Or.inr ⟨hz2, hz1⟩)])
          have tz : (x == 0) = true := by rw [hz1]; rfl
          clear hz1
          by_cases e9 : j = 9
          · subst e9
            have hx1 : ¬ 1 < x := by have := H9.out; omega
            go_wp2_with fail
            go_ret3
            exact ⟨by rw [HE.out]; rfl, rfl⟩
          · have t9 : ((j : Int) == 9) = false := beq_eq_false_iff_ne.2 (by omega)
            go_wp2_with fail
            go_ret3
            exact ⟨by rw [HE.out]; rfl, rfl⟩
        · have HZ := Lib.hid hz
          clear hz
          by_cases hx : x < 128
          · have HE := Lib.hid (show R = some (N, j + 1) by
              rw [← HDR.out, decA_end (by have := H9.out; have := HZ.out; omega) hx, ← HN.out, show x.toNat % 128 = x.toNat by omega])
            by_cases e9 : j = 9
            · subst e9
              have hx1 : ¬ 1 < x := by have := H9.out; omega
              have tz : (x == 0) = false := beq_eq_false_iff_ne.2 (by have := HZ.out; omega)
              have hadd9 : IntKind.u64.wrap ((A : Int) + x % 128 * 9223372036854775808) = (N : Int) := by
                have h := hadd
                rw [show (2 : Int) ^ (7 * 9) = 9223372036854775808 from by decide, show IntKind.u64.wrap (x % 128 * 9223372036854775808) = x % 128 * 9223372036854775808 by rw [IntKind.wrap_u64]; omega] at h
                exact h
              clear hadd
              go_wp2_with fail
              go_ret3
              exact ⟨by rw [HE.out]; rfl, rfl⟩
            · have t9 : ((j : Int) == 9) = false := beq_eq_false_iff_ne.2 (by omega)
              by_cases hj0 : 0 < j
              · have tz : (x == 0) = false := beq_eq_false_iff_ne.2 (by have := HZ.out; omega)
                go_wp2_with fail
                go_ret3
                exact ⟨by rw [HE.out]; rfl, rfl⟩
              · go_wp2_with fail
                go_ret3
                exact ⟨by rw [HE.out]; rfl, rfl⟩
          · have e9 : j ≠ 9 := by have := H9.out; omega
            have t9 : ((j : Int) == 9) = false := beq_eq_false_iff_ne.2 (by omega)
            have tz : (x == 0) = false := beq_eq_false_iff_ne.2 (by omega)
            have HNL := Lib.hid (show N < 2 ^ (7 * (j + 1)) by rw [← HN.out]; exact decA_lt HA.out (Nat.mod_lt _ (by omega)))
            have HE := Lib.hid (show decA (j + 1) N (l.drop (j + 1)) = R by rw [← HDR.out, decA_on (by have := H9.out; omega) hx, HN.out])
            by_cases hj0 : 0 < j
            · go_wp2_with fail
              go_round
              case rel => exact ⟨j + 1, N, by omega, by omega, by go_num, rfl, HNL, HE⟩
              case measure => simp [intOf]; omega
            · go_wp2_with fail
              go_round
              case rel => exact ⟨j + 1, N, by omega, by omega, by go_num, rfl, HNL, HE⟩
              case measure => simp [intOf]; omega
    · have HE := Lib.hid (show R = none by rw [← HD.out, List.drop_of_length_le (by omega)]; rfl)
      go_wp2_with fail
      go_ret3
      exact ⟨by rw [HE.out]; rfl, rfl⟩

/-- The number with a sign. -/
def uz (u : Nat) : Int := if u % 2 = 1 then -((u / 2 : Nat) : Int) - 1 else ((u / 2 : Nat) : Int)
theorem uz_i64 {u : Nat} (h : u < 18446744073709551616) : I64 (uz u) := by
  unfold uz I64; split <;> omega
theorem ret_i64 {a b : Int} (h : a = b) : Ending.returned (.int .i64 a) = .returned (.int .i64 b) := by rw [h]
theorem xor_neg1 {h : Nat} (hh : h < 9223372036854775808) : bits BinOp.xor IntKind.i64 (-1) (h : Int) = -(h : Int) - 1 := by
  have h1 : (BitVec.ofInt 64 (-1)).toNat = 18446744073709551615 := by decide
  have h2 : (BitVec.ofInt 64 (h : Int)).toNat = h := by
    rw [BitVec.ofInt_natCast, BitVec.toNat_ofNat]; exact Nat.mod_eq_of_lt (by omega)
  show IntKind.i64.wrap ((BitVec.ofInt 64 (-1) ^^^ BitVec.ofInt 64 (h : Int)).toNat : Int) = _
  rw [BitVec.toNat_xor, h1, h2, xor_max h (by omega)]
  rw [show ((18446744073709551615 - h : Nat) : Int) = 18446744073709551615 - (h : Int) from Int.ofNat_sub (by omega), IntKind.wrap_i64]
  omega
set_option maxHeartbeats 1000000 in
theorem runz_any (u : Nat) (w : World) (hu : u < 18446744073709551616) : Calls Try.prog 94 #[.int .u64 u] w fun e w' => e = .returned (.int .i64 (uz u)) ∧ w' = w := by
  by_cases h : u % 2 = 1
  · have HE := Lib.hid (show uz u = -((u / 2 : Nat) : Int) - 1 by unfold uz; rw [if_pos h])
    have t : ((u : Int) % 2 == 1) = true := by rw [beq_iff_eq]; omega
    clear h
    go_enter Try.func94, Try.ntmps94
    go_wp2_with fail
    go_ret
    exact ⟨ret_i64 (by rw [HE.out]; omega), rfl⟩
  · have HE := Lib.hid (show uz u = ((u / 2 : Nat) : Int) by unfold uz; rw [if_neg h])
    have t : ((u : Int) % 2 == 1) = false := beq_eq_false_iff_ne.2 (by omega)
    clear h
    go_enter Try.func94, Try.ntmps94
    go_wp2_with fail
    go_ret
    exact ⟨ret_i64 (by rw [HE.out]; omega), rfl⟩
set_option maxHeartbeats 1000000 in
theorem nunz_any (u : Nat) (w : World) (hu : u < 18446744073709551616) : Calls Try.prog 136 #[.int .u64 u] w fun e w' => e = .returned (.int .i64 (uz u)) ∧ w' = w := by
  by_cases h : u % 2 = 1
  · have HE := Lib.hid (show uz u = -((u / 2 : Nat) : Int) - 1 by unfold uz; rw [if_pos h])
    have t : (bits BinOp.and IntKind.u64 (u : Int) 1 == 1) = true := by
      rw [show (1 : Int) = ((1 : Nat) : Int) from rfl, bits_and_u64_nat _ _ hu (by omega), beq_iff_eq, Nat.and_one_is_mod]; omega
    clear h
    go_enter Try.func136, Try.ntmps136
    go_wp2_with fail
    go_ret
    exact ⟨ret_i64 (by rw [HE.out, ← xor_neg1 (show u / 2 < 9223372036854775808 by omega)]; rfl), rfl⟩
  · have HE := Lib.hid (show uz u = ((u / 2 : Nat) : Int) by unfold uz; rw [if_neg h])
    have t : (bits BinOp.and IntKind.u64 (u : Int) 1 == 1) = false := by
      rw [show (1 : Int) = ((1 : Nat) : Int) from rfl, bits_and_u64_nat _ _ hu (by omega), Nat.and_one_is_mod]; exact beq_eq_false_iff_ne.2 (by omega)
    clear h
    go_enter Try.func136, Try.ntmps136
    go_wp2_with fail
    go_ret
    exact ⟨ret_i64 (by rw [HE.out]; omega), rfl⟩
def intR (o : Option (Nat × Nat)) : Value := match o with | some (v, n) => .tuple #[.int .i64 (uz v), .int .i64 n, .int .i64 0] | none => .tuple #[.int .i64 0, .int .i64 0, .int .i64 6]
theorem decA_bound : ∀ (l : List Int) (i acc : Nat) (v n : Nat), Byts l → i ≤ 9 → acc < 2 ^ (7 * i) → decA i acc l = some (v, n) → v < 18446744073709551616 ∧ i < n ∧ n ≤ i + l.length ∧ n ≤ 10
  | [], _, _, _, _, _, _, _, h => by cases h
  | b :: r, i, acc, v, n, hB, hi, ha, h => by
    have hb := hB b (by simp)
    rw [decA] at h
    split at h
    · cases h
    · rename_i hs
      split at h
      · rename_i hlt
        have h9 : i = 9 → b.toNat ≤ 1 := fun e => by omega
        have := dec_fit hi ha (show b.toNat < 128 by omega) h9
        cases h
        simp only [List.length_cons]
        refine ⟨this, by omega, by omega, by omega⟩
      · rename_i hge
        have hi9 : i ≤ 8 := by omega
        have := decA_bound r (i + 1) _ v n (fun x hx => hB x (by simp [hx])) (by omega) (decA_lt ha (Nat.mod_lt _ (by omega))) h
        simp only [List.length_cons]
        omega
theorem decU_bound {l : List Int} {v n : Nat} (hB : Byts l) (h : decU l = some (v, n)) : v < 18446744073709551616 ∧ 0 < n ∧ n ≤ l.length ∧ n ≤ 10 := by
  have := decA_bound l 0 0 v n hB (by omega) (by simp) h
  omega
set_option maxHeartbeats 1000000 in
theorem nInt_any (S : Nat → Prop) (l : List Int) (v : Value) (w : World) (hl : l.length ≤ maxLen) (hb : Byts l) (h : Row S w 1 l.length v (bV l)) :
    Calls Try.prog 127 #[v] w fun e w' => e = .returned (intR (decU l)) ∧ w' = w := by
  obtain ⟨a, cap, rfl, hcap⟩ := h.shape
  have HR := Lib.hid h; clear h
  have HB := Lib.hid hb; clear hb
  go_enter Try.func127, Try.ntmps127
  go_wp2_with fail
  refine (nUint_any S l _ w hl HB.out HR.out).mono ?_
  obtain ⟨R, hR⟩ : ∃ R, decU l = R := ⟨_, rfl⟩
  rw [hR]
  have HRE := Lib.hid hR; clear hR
  rintro e w' ⟨rfl, rfl⟩
  cases R with
  | none =>
    unfold numR
    go_wp2_with fail
    refine (nunz_any 0 _ (by omega)).mono ?_
    rintro e w' ⟨rfl, rfl⟩
    go_wp2_with fail
    go_ret3
    exact ⟨by rw [HRE.out]; rfl, rfl⟩
  | some p =>
    obtain ⟨u, n⟩ := p
    have HU := Lib.hid (decU_bound HB.out HRE.out)
    unfold numR
    go_wp2_with fail
    refine (nunz_any u _ HU.out.1).mono ?_
    rintro e w' ⟨rfl, rfl⟩
    go_wp2_with fail
    go_ret3
    exact ⟨by rw [HRE.out]; rfl, rfl⟩
end Go.Proofs.Ytekhoanjpnjaeaa
