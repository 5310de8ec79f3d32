/- num.Uint (125). -/
import Derived.Test.YtekhoanjpnjaeaaDecL
import Derived.Test.YtekhoanjpnjaeaaBSame
namespace Go.Proofs.Ytekhoanjpnjaeaa
open Go.RowKit
def numR (o : Option (Nat × Nat)) (k : IntKind) : Value := match o with | some (v, n) => .tuple #[.int .u64 v, .int .i64 n, .int k 0] | none => .tuple #[.int .u64 0, .int .i64 0, .int k 6]
theorem bits_and_all : ∀ x : Fin 256, bits BinOp.and IntKind.u8 ((x.val : Nat) : Int) 127 = ((x.val % 128 : Nat) : Int) := by decide +kernel
theorem bits_and127 {x : Int} (h0 : 0 ≤ x) (h1 : x ≤ 255) : bits BinOp.and IntKind.u8 x 127 = ((x.toNat % 128 : Nat) : Int) := by
  have h := bits_and_all ⟨x.toNat, by omega⟩
  rwa [show ((x.toNat : Nat) : Int) = x by omega] at h
theorem dec_or {j A : Nat} {x : Int} (hj : j ≤ 9) (h0 : 0 ≤ x) (h1 : x ≤ 255) (hA : A < 2 ^ (7 * j)) (h9 : j = 9 → x ≤ 1) : bits BinOp.or IntKind.u64 (A : Int) (IntKind.u64.wrap (IntKind.u64.wrap (bits BinOp.and IntKind.u8 x 127) * 2 ^ (7 * j))) = ((A + (x.toNat % 128) * 2 ^ (7 * j) : Nat) : Int) := by
  have hb : x.toNat % 128 < 128 := Nat.mod_lt _ (by omega)
  have hf := dec_fit hj hA hb (fun e => by have := h9 e; omega)
  rw [bits_and127 h0 h1]
  generalize x.toNat % 128 = b at *
  have e1 : IntKind.u64.wrap (IntKind.u64.wrap ((b : Nat) : Int) * 2 ^ (7 * j)) = ((b * 2 ^ (7 * j) : Nat) : Int) := by
    rw [show IntKind.u64.wrap ((b : Nat) : Int) = (b : Int) by rw [IntKind.wrap_u64]; omega]
    rw [show ((b : Int) * 2 ^ (7 * j)) = ((b * 2 ^ (7 * j) : Nat) : Int) by rw [Int.natCast_mul, Int.natCast_pow]; rfl]
    rw [IntKind.wrap_u64]
    omega
  rw [e1, bits_or_u64_nat _ _ (by omega) (by omega), or_add hA]
theorem numR_none (k : IntKind) : numR none k = .tuple #[.int .u64 0, .int .i64 0, .int k 6] := rfl
theorem numR_some (v n : Nat) (k : IntKind) : numR (some (v, n)) k = .tuple #[.int .u64 v, .int .i64 n, .int k 0] := rfl
set_option maxRecDepth 100000 in
set_option maxHeartbeats 1000000 in
theorem nUint_any (S : Nat → Prop) (l : List Int) (v : Value) (w : World) (hl : l.length ≤ maxLen) (hb : Byts l) (h : Row S w 1 l.length v (bV l)) :
    Calls Try.prog 125 #[v] w fun e w' => e = .returned (numR (decU l) .i64) ∧ w' = w := by
  obtain ⟨a, cap, rfl, hcap⟩ := h.shape
  have HR := Lib.hid h; clear h
  have HB := Lib.hid hb; clear hb
  unfold maxLen at hl
  obtain ⟨R, hR⟩ : ∃ R, decU l = R := ⟨_, rfl⟩
  rw [hR]
  have HRE := Lib.hid hR; clear hR
  go_enter Try.func125, Try.ntmps125
  go_wp2_with fail
  go_loop [2, 9] (fun acc i => ∃ j A : Nat, j ≤ l.length ∧ j ≤ 9 ∧ i = .int .i64 j ∧ acc = .int .u64 A ∧ Hid (A < 2 ^ (7 * j)) ∧ Hid (decA j A (l.drop j) = R)) (fun _ i => l.length - (intOf i).toNat)
  case atStart => exact ⟨0, 0, Nat.zero_le _, by omega, rfl, rfl, Lib.hid (by simp), HRE⟩
  case round =>
    obtain ⟨j, A, hj, hj9, rfl, rfl, HA, HD⟩ := hrel
    by_cases hlt : j < l.length
    · obtain ⟨b, off, rfl, _, _, hc⟩ := HR.out.at (by omega)
      have g0 := hc j _ (bV_get l j hlt)
      clear hc
      have HDR := Lib.hid (show decA j A (l[j] :: l.drop (j + 1)) = R by rw [← List.drop_eq_getElem_cons hlt]; exact HD.out)
      have hx := HB.out _ (List.getElem_mem hlt)
      obtain ⟨x0, x1⟩ := hx
      generalize l[j] = x at *
      by_cases h9 : j = 9 ∧ 1 < x
      · obtain ⟨rfl, hx1⟩ := h9
        have HE := Lib.hid (show R = none by rw [← HDR.out, decA_stop (Or.inl ⟨rfl, hx1⟩)])
        go_wp2_with fail
        go_ret3
        exact ⟨by rw [HE.out]; rfl, rfl⟩
      · have H9 := Lib.hid h9
        have hor := dec_or hj9 x0 x1 HA.out (fun e => by have := H9.out; omega)
        obtain ⟨N, hN⟩ : ∃ N, A + (x.toNat % 128) * 2 ^ (7 * j) = N := ⟨_, rfl⟩
        rw [hN] at hor
        have HN := Lib.hid hN; clear hN h9
        by_cases hx : x < 128
        · have tx : (x / 128 == 0) = true := by rw [beq_iff_eq]; omega
          have HX := Lib.hid hx
          by_cases hz : x = 0 ∧ 0 < j
          · obtain ⟨hz1, hz2⟩ := hz
            have HE := Lib.hid (show R = none by rw [← HDR.out, decA_stop (Or.inr ⟨hz2, hz1⟩)])
            subst hz1
            clear hx
            by_cases e9 : j = 9
            · subst e9
              go_wp2_with fail
              go_ret3
              exact ⟨by rw [HE.out]; rfl, rfl⟩
            · have t9 : ((j : Int) == 9) = false := beq_eq_false_iff_ne.2 (by omega)
              go_wp2_with fail
              go_ret3
              exact ⟨by rw [HE.out]; rfl, rfl⟩
          · have HZ := Lib.hid hz
            have HE := Lib.hid (show R = some (N, j + 1) by
              rw [← HDR.out, decA_end (by have := H9.out; have := HZ.out; omega) hx, ← HN.out, show x.toNat % 128 = x.toNat by omega])
            clear hx hz
            by_cases hz0 : x = 0
            · have hj0 : j = 0 := by have := HZ.out; omega
              have hjn : ¬ 0 < j := by omega
              have t9 : ((j : Int) == 9) = false := beq_eq_false_iff_ne.2 (by omega)
              clear hj0
              subst hz0
              go_wp2_with fail
              go_ret3
              exact ⟨by rw [HE.out]; rfl, rfl⟩
            · have tz : (x == 0) = false := beq_eq_false_iff_ne.2 hz0
              by_cases e9 : j = 9
              · subst e9
                have hx1 : ¬ 1 < x := by have := H9.out; omega
                have hor9 : bits BinOp.or IntKind.u64 (A : Int) (IntKind.u64.wrap (IntKind.u64.wrap (bits BinOp.and IntKind.u8 x 127) * 9223372036854775808)) = (N : Int) := by
                  rw [show (9223372036854775808 : Int) = 2 ^ (7 * 9) from by decide]; exact hor
                clear hor
                go_wp2_with fail
                go_ret3
                exact ⟨by rw [HE.out]; rfl, rfl⟩
              · have t9 : ((j : Int) == 9) = false := beq_eq_false_iff_ne.2 (by omega)
                go_wp2_with fail
                go_ret3
                exact ⟨by rw [HE.out]; rfl, rfl⟩
        · have tx : (x / 128 == 0) = false := beq_eq_false_iff_ne.2 (by omega)
          have HX := Lib.hid hx
          have e9 : j ≠ 9 := by have := H9.out; omega
          have t9 : ((j : Int) == 9) = false := beq_eq_false_iff_ne.2 (by omega)
          have HNL := Lib.hid (show N < 2 ^ (7 * (j + 1)) by rw [← HN.out]; exact decA_lt HA.out (Nat.mod_lt _ (by omega)))
          have HE := Lib.hid (show decA (j + 1) N (l.drop (j + 1)) = R by rw [← HDR.out, decA_on (by have := H9.out; omega) hx, HN.out])
          clear hx
          go_wp2_with fail
          go_round
          case rel => exact ⟨j + 1, N, by omega, by omega, by go_num, rfl, HNL, HE⟩
          case measure => simp [intOf]; omega
    · have HE := Lib.hid (show R = none by rw [← HD.out, List.drop_of_length_le (by omega)]; rfl)
      go_wp2_with fail
      go_ret3
      exact ⟨by rw [HE.out]; rfl, rfl⟩
end Go.Proofs.Ytekhoanjpnjaeaa
