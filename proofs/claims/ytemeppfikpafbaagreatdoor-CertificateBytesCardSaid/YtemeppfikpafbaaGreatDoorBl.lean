/- Texts RdrG, RdsG, RdtG, laid together. -/
import Derived.Laws.BitsLemmas
import Derived.Laws.Bits64
import Derived.Test.YtemeppfikpafbaaGreatDoorBb
import Derived.Test.YtemeppfikpafbaaGreatDoorBg
/- num.Uint (156), Int (198), Unzigzag (236); num.Reader: NewReader (104), open (155), take (157), Uint (107), Int (161), Err (160); ported from the first seat. -/
namespace Go.Proofs.YtemeppfikpafbaaGreatDoor
open Go.RowKit
theorem bV_get (l : List Int) (j : Nat) (h : j < l.length) : (bV l)[j]? = some (.int .u8 l[j]) := by simp [bV, h]
/-- nil, or an address of its own. -/
def PlainA (a : Option Addr) (c : Nat) : Prop := (a = none ∧ c = 0) ∨ ∃ b off, a = some ⟨b, off, none⟩
theorem PlainA.nil {a : Option Addr} {c : Nat} (h : PlainA a c) (e : a = none) : c = 0 := by
  rcases h with h | ⟨b, off, h⟩
  · exact h.2
  · rw [h] at e; cases e
/-- A slice that reads as bytes. -/
def ByV (S : Nat → Prop) (w : World) (l : List Int) (v : Value) : Prop := ∃ a cap, v = .slice a l.length cap ∧ Row S w 1 l.length v (bV l) ∧ PlainA a cap
theorem ByV.below {S : Nat → Prop} {w w' : World} {l : List Int} {v : Value} (hB : Below w.heap.size w w') (h : ByV S w l v) : ByV S w' l v := by
  obtain ⟨a, cap, rfl, hr, hp⟩ := h
  exact ⟨a, cap, rfl, hr.below hB, hp⟩
theorem ByV.mono {S S' : Nat → Prop} {w : World} {l : List Int} {v : Value} (hS : ∀ b, S b → S' b) (h : ByV S w l v) : ByV S' w l v := by
  obtain ⟨a, cap, rfl, hr, hp⟩ := h
  exact ⟨a, cap, rfl, hr.mono hS (fun _ _ _ _ h => h), hp⟩
theorem ByV.nil (S : Nat → Prop) (w : World) : ByV S w [] (.slice none 0 0) := ⟨none, 0, rfl, Row.nil _ _ _ _ _, Or.inl ⟨rfl, rfl⟩⟩
theorem plain_owns {w : World} {B : Nat} {e : TypeId} {n size cap : Nat} {a : Option Addr} {xs : List Value} (h : w.ownsRow B e size (.slice a n cap) n xs) : PlainA a cap := by
  obtain ⟨_, h | ⟨g, c, cur, h, _⟩⟩ := h
  · have := h.1; simp at this; exact Or.inl ⟨this.1, this.2.2⟩
  · cases h; exact Or.inr ⟨g, 0, rfl⟩
theorem ByV.of_owns {w : World} {B : Nat} {l : List Int} {v : Value} (h : w.ownsRow B 5 1 v l.length (bV l)) : ByV (fun x => B ≤ x) w l v := by
  obtain ⟨a, cap, rfl, _⟩ := owns_shape h
  exact ⟨a, cap, rfl, Row.of_owns h, plain_owns h⟩
/-- What an append law asks of its source. -/
theorem ByV.news {S : Nat → Prop} {w : World} {l : List Int} {ad : Addr} {n cap : Nat} (h : ByV S w l (.slice (some ad) n cap)) : ∀ i u, (bV l)[i]? = some u → w.cell? (ad.add i) = some u := fun i u hu => by
  obtain ⟨a, c, e, hr, _⟩ := h
  cases e
  have hne : l.length ≠ 0 := by
    intro e
    have : l = [] := List.length_eq_zero_iff.1 e
    subst this; simp [bV] at hu
  obtain ⟨b2, off2, he, _, _, hc2⟩ := hr.at hne
  cases he
  rw [Addr.add_lit]
  exact hc2 i u hu
theorem ByV.none' {S : Nat → Prop} {w : World} {l : List Int} {n cap : Nat} (h : ByV S w l (.slice none n cap)) : l = [] ∧ n = 0 ∧ cap = 0 := by
  obtain ⟨a, c, e, hr, hp⟩ := h
  cases e
  have hc : cap = 0 := hp.nil rfl
  have hn : l.length = 0 := by
    by_cases hn : l.length = 0
    · exact hn
    · obtain ⟨_, _, he, _⟩ := hr.at hn; cases he
  exact ⟨List.length_eq_zero_iff.1 hn, hn, hc⟩
theorem row_lt {S : Nat → Prop} {w : World} {size n : Nat} {v : Value} {xs : List Value} (hs : 0 < size) (h : Row S w size n v xs) : Row (fun b => b < w.heap.size) w size n v xs :=
  h.mono2 hs (fun _ _ _ _ hc => ⟨cell_lt hc, hc⟩)
/-- The number that goes on at the i-th byte, and how many bytes it has. -/
def decA : Nat → Nat → List Int → Option (Nat × Nat)
  | _, _, [] => none
  | i, acc, b :: r => if (i = 9 ∧ 1 < b) ∨ (0 < i ∧ b = 0) then none else if b < 128 then some (acc + b.toNat * 2 ^ (7 * i), i + 1) else decA (i + 1) (acc + (b.toNat % 128) * 2 ^ (7 * i)) r
def decU (l : List Int) : Option (Nat × Nat) := decA 0 0 l
def Byts (l : List Int) : Prop := ∀ b ∈ l, 0 ≤ b ∧ b ≤ 255
theorem decA_stop {i acc : Nat} {b : Int} {r : List Int} (h : (i = 9 ∧ 1 < b) ∨ (0 < i ∧ b = 0)) : decA i acc (b :: r) = none := by rw [decA, if_pos h]
theorem decA_end {i acc : Nat} {b : Int} {r : List Int} (h : ¬ ((i = 9 ∧ 1 < b) ∨ (0 < i ∧ b = 0))) (hb : b < 128) : decA i acc (b :: r) = some (acc + b.toNat * 2 ^ (7 * i), i + 1) := by rw [decA, if_neg h, if_pos hb]
theorem decA_on {i acc : Nat} {b : Int} {r : List Int} (h : ¬ ((i = 9 ∧ 1 < b) ∨ (0 < i ∧ b = 0))) (hb : ¬ b < 128) : decA i acc (b :: r) = decA (i + 1) (acc + (b.toNat % 128) * 2 ^ (7 * i)) r := by rw [decA, if_neg h, if_neg hb]
theorem pow7 (i : Nat) : 2 ^ (7 * (i + 1)) = 128 * 2 ^ (7 * i) := by rw [Nat.mul_add, Nat.pow_add]; omega
theorem decA_lt {i acc : Nat} {b : Nat} (ha : acc < 2 ^ (7 * i)) (hb : b < 128) : acc + b * 2 ^ (7 * i) < 2 ^ (7 * (i + 1)) := by
  rw [pow7]
  have := Nat.mul_le_mul_right (2 ^ (7 * i)) (show b + 1 ≤ 128 by omega)
  rw [Nat.add_mul] at this
  omega
theorem pow7_le {i : Nat} (hi : i ≤ 8) : 2 ^ (7 * (i + 1)) ≤ 9223372036854775808 := by
  have : 2 ^ (7 * (i + 1)) ≤ 2 ^ 63 := Nat.pow_le_pow_right (by omega) (by omega)
  exact this
/-- What is added fits. -/
theorem dec_fit {i acc b : Nat} (hi : i ≤ 9) (ha : acc < 2 ^ (7 * i)) (hb : b < 128) (h9 : i = 9 → b ≤ 1) : acc + b * 2 ^ (7 * i) < 18446744073709551616 := by
  by_cases e : i = 9
  · subst e
    have := h9 rfl
    have h2 : (2 : Nat) ^ (7 * 9) = 9223372036854775808 := by decide
    rw [h2] at ha ⊢
    have : b * 9223372036854775808 ≤ 1 * 9223372036854775808 := Nat.mul_le_mul_right _ this
    omega
  · have := decA_lt ha hb
    have := pow7_le (show i ≤ 8 by omega)
    omega
theorem or_add {i acc b : Nat} (ha : acc < 2 ^ (7 * i)) : acc ||| (b * 2 ^ (7 * i)) = acc + b * 2 ^ (7 * i) := by
  rw [Nat.or_comm, ← Nat.shiftLeft_eq, ← Nat.shiftLeft_add_eq_or_of_lt ha, Nat.shiftLeft_eq, Nat.add_comm]
def numR (o : Option (Nat × Nat)) (k : IntKind) : Value := match o with | some (v, n) => .tuple #[.int .u64 v, .int .i64 n, .int k 0] | none => .tuple #[.int .u64 0, .int .i64 0, .int k 6]
theorem bits_and_all : ∀ x : Fin 256, bits BinOp.and IntKind.u8 ((x.val : Nat) : Int) 127 = ((x.val % 128 : Nat) : Int) := by decide +kernel
theorem bits_and127 {x : Int} (h0 : 0 ≤ x) (h1 : x ≤ 255) : bits BinOp.and IntKind.u8 x 127 = ((x.toNat % 128 : Nat) : Int) := by
  have h := bits_and_all ⟨x.toNat, by omega⟩
  rwa [show ((x.toNat : Nat) : Int) = x by omega] at h
theorem dec_or {j A : Nat} {x : Int} (hj : j ≤ 9) (h0 : 0 ≤ x) (h1 : x ≤ 255) (hA : A < 2 ^ (7 * j)) (h9 : j = 9 → x ≤ 1) : bits BinOp.or IntKind.u64 (A : Int) (IntKind.u64.wrap (IntKind.u64.wrap (bits BinOp.and IntKind.u8 x 127) * 2 ^ (7 * j))) = ((A + (x.toNat % 128) * 2 ^ (7 * j) : Nat) : Int) := by
  have hb : x.toNat % 128 < 128 := Nat.mod_lt _ (by omega)
  have hf := dec_fit hj hA hb (fun e => by have := h9 e; omega)
  rw [bits_and127 h0 h1]
  generalize x.toNat % 128 = b at *
  have e1 : IntKind.u64.wrap (IntKind.u64.wrap ((b : Nat) : Int) * 2 ^ (7 * j)) = ((b * 2 ^ (7 * j) : Nat) : Int) := by
    rw [show IntKind.u64.wrap ((b : Nat) : Int) = (b : Int) by rw [IntKind.wrap_u64]; omega]
    rw [show ((b : Int) * 2 ^ (7 * j)) = ((b * 2 ^ (7 * j) : Nat) : Int) by rw [Int.natCast_mul, Int.natCast_pow]; rfl]
    rw [IntKind.wrap_u64]
    omega
  rw [e1, bits_or_u64_nat _ _ (by omega) (by omega), or_add hA]
theorem numR_none (k : IntKind) : numR none k = .tuple #[.int .u64 0, .int .i64 0, .int k 6] := rfl
theorem numR_some (v n : Nat) (k : IntKind) : numR (some (v, n)) k = .tuple #[.int .u64 v, .int .i64 n, .int k 0] := rfl
set_option maxRecDepth 100000 in
set_option maxHeartbeats 1000000 in
theorem nUint_any (S : Nat → Prop) (l : List Int) (v : Value) (w : World) (hl : l.length ≤ maxLen) (hb : Byts l) (h : Row S w 1 l.length v (bV l)) :
    Calls Tryz.prog 62 #[v] w fun e w' => e = .returned (numR (decU l) .i64) ∧ w' = w := by
  obtain ⟨a, cap, rfl, hcap⟩ := h.shape
  have HR := Lib.hid h; clear h
  have HB := Lib.hid hb; clear hb
  unfold maxLen at hl
  obtain ⟨R, hR⟩ : ∃ R, decU l = R := ⟨_, rfl⟩
  rw [hR]
  have HRE := Lib.hid hR; clear hR
  go_enter Tryz.func62, Tryz.ntmps62
  go_wp2_with fail
  go_loop [2, 9] (fun acc i => ∃ j A : Nat, j ≤ l.length ∧ j ≤ 9 ∧ i = .int .i64 j ∧ acc = .int .u64 A ∧ Hid (A < 2 ^ (7 * j)) ∧ Hid (decA j A (l.drop j) = R)) (fun _ i => l.length - (intOf i).toNat)
  case atStart => exact ⟨0, 0, Nat.zero_le _, by omega, rfl, rfl, Lib.hid (by simp), HRE⟩
  case round =>
    obtain ⟨j, A, hj, hj9, rfl, rfl, HA, HD⟩ := hrel
    by_cases hlt : j < l.length
    · obtain ⟨b, off, rfl, _, _, hc⟩ := HR.out.at (by omega)
      have g0 := hc j _ (bV_get l j hlt)
      clear hc
      have HDR := Lib.hid (show decA j A (l[j] :: l.drop (j + 1)) = R by rw [← List.drop_eq_getElem_cons hlt]; exact HD.out)
      have hx := HB.out _ (List.getElem_mem hlt)
      obtain ⟨x0, x1⟩ := hx
      generalize l[j] = x at *
      by_cases h9 : j = 9 ∧ 1 < x
      · obtain ⟨rfl, hx1⟩ := h9
        have HE := Lib.hid (show R = none by rw [← HDR.out, decA_stop (Or.inl ⟨rfl, hx1⟩)])
        go_wp2_with fail
        go_ret3
        exact ⟨by rw [HE.out]; rfl, rfl⟩
      · have H9 := Lib.hid h9
        have hor := dec_or hj9 x0 x1 HA.out (fun e => by have := H9.out; omega)
        obtain ⟨N, hN⟩ : ∃ N, A + (x.toNat % 128) * 2 ^ (7 * j) = N := ⟨_, rfl⟩
        rw [hN] at hor
        have HN := Lib.hid hN; clear hN h9
        by_cases hx : x < 128
        · have tx : (x / 128 == 0) = true := by rw [beq_iff_eq]; omega
          have HX := Lib.hid hx
          by_cases hz : x = 0 ∧ 0 < j
          · obtain ⟨hz1, hz2⟩ := hz
            have HE := Lib.hid (show R = none by rw [← HDR.out, decA_stop (Or.inr ⟨hz2, hz1⟩)])
            subst hz1
            clear hx
            by_cases e9 : j = 9
            · subst e9
              go_wp2_with fail
              go_ret3
              exact ⟨by rw [HE.out]; rfl, rfl⟩
            · have t9 : ((j : Int) == 9) = false := beq_eq_false_iff_ne.2 (by omega)
              go_wp2_with fail
              go_ret3
              exact ⟨by rw [HE.out]; rfl, rfl⟩
          · have HZ := Lib.hid hz
            have HE := Lib.hid (show R = some (N, j + 1) by
              rw [← HDR.out, decA_end (by have := H9.out; have := HZ.out; omega) hx, ← HN.out, show x.toNat % 128 = x.toNat by omega])
            clear hx hz
            by_cases hz0 : x = 0
            · have hj0 : j = 0 := by have := HZ.out; omega
              have hjn : ¬ 0 < j := by omega
              have t9 : ((j : Int) == 9) = false := beq_eq_false_iff_ne.2 (by omega)
              clear hj0
              subst hz0
              go_wp2_with fail
              go_ret3
              exact ⟨by rw [HE.out]; rfl, rfl⟩
            · have tz : (x == 0) = false := beq_eq_false_iff_ne.2 hz0
              by_cases e9 : j = 9
              · subst e9
                have hx1 : ¬ 1 < x := by have := H9.out; omega
                have hor9 : bits BinOp.or IntKind.u64 (A : Int) (IntKind.u64.wrap (IntKind.u64.wrap (bits BinOp.and IntKind.u8 x 127) * 9223372036854775808)) = (N : Int) := by
                  rw [show (9223372036854775808 : Int) = 2 ^ (7 * 9) from by decide]; exact hor
                clear hor
                go_wp2_with fail
                go_ret3
                exact ⟨by rw [HE.out]; rfl, rfl⟩
              · have t9 : ((j : Int) == 9) = false := beq_eq_false_iff_ne.2 (by omega)
                go_wp2_with fail
                go_ret3
                exact ⟨by rw [HE.out]; rfl, rfl⟩
        · have tx : (x / 128 == 0) = false := beq_eq_false_iff_ne.2 (by omega)
          have HX := Lib.hid hx
          have e9 : j ≠ 9 := by have := H9.out; omega
          have t9 : ((j : Int) == 9) = false := beq_eq_false_iff_ne.2 (by omega)
          have HNL := Lib.hid (show N < 2 ^ (7 * (j + 1)) by rw [← HN.out]; exact decA_lt HA.out (Nat.mod_lt _ (by omega)))
          have HE := Lib.hid (show decA (j + 1) N (l.drop (j + 1)) = R by rw [← HDR.out, decA_on (by have := H9.out; omega) hx, HN.out])
          clear hx
          go_wp2_with fail
          go_round
          case rel => exact ⟨j + 1, N, by omega, by omega, by go_num, rfl, HNL, HE⟩
          case measure => simp [intOf]; omega
    · have HE := Lib.hid (show R = none by rw [← HD.out, List.drop_of_length_le (by omega)]; rfl)
      go_wp2_with fail
      go_ret3
      exact ⟨by rw [HE.out]; rfl, rfl⟩
/-- The number with a sign. -/
def uz (u : Nat) : Int := if u % 2 = 1 then -((u / 2 : Nat) : Int) - 1 else ((u / 2 : Nat) : Int)
theorem uz_i64 {u : Nat} (h : u < 18446744073709551616) : In64 (uz u) := by
  unfold uz In64; split <;> omega
theorem ret_i64 {a b : Int} (h : a = b) : Ending.returned (.int .i64 a) = .returned (.int .i64 b) := by rw [h]
theorem xor_neg1 {h : Nat} (hh : h < 9223372036854775808) : bits BinOp.xor IntKind.i64 (-1) (h : Int) = -(h : Int) - 1 := by
  have h1 : (BitVec.ofInt 64 (-1)).toNat = 18446744073709551615 := by decide
  have h2 : (BitVec.ofInt 64 (h : Int)).toNat = h := by
    rw [BitVec.ofInt_natCast, BitVec.toNat_ofNat]; exact Nat.mod_eq_of_lt (by omega)
  show IntKind.i64.wrap ((BitVec.ofInt 64 (-1) ^^^ BitVec.ofInt 64 (h : Int)).toNat : Int) = _
  rw [BitVec.toNat_xor, h1, h2, xor_max h (by omega)]
  rw [show ((18446744073709551615 - h : Nat) : Int) = 18446744073709551615 - (h : Int) from Int.ofNat_sub (by omega), IntKind.wrap_i64]
  omega
set_option maxHeartbeats 1000000 in
theorem nunz_any (u : Nat) (w : World) (hu : u < 18446744073709551616) : Calls Tryz.prog 105 #[.int .u64 u] w fun e w' => e = .returned (.int .i64 (uz u)) ∧ w' = w := by
  by_cases h : u % 2 = 1
  · have HE := Lib.hid (show uz u = -((u / 2 : Nat) : Int) - 1 by unfold uz; rw [if_pos h])
    have t : (bits BinOp.and IntKind.u64 (u : Int) 1 == 1) = true := by
      rw [show (1 : Int) = ((1 : Nat) : Int) from rfl, bits_and_u64_nat _ _ hu (by omega), beq_iff_eq, Nat.and_one_is_mod]; omega
    clear h
    go_enter Tryz.func105, Tryz.ntmps105
    go_wp2_with fail
    go_ret
    exact ⟨ret_i64 (by rw [HE.out, ← xor_neg1 (show u / 2 < 9223372036854775808 by omega)]; rfl), rfl⟩
  · have HE := Lib.hid (show uz u = ((u / 2 : Nat) : Int) by unfold uz; rw [if_neg h])
    have t : (bits BinOp.and IntKind.u64 (u : Int) 1 == 1) = false := by
      rw [show (1 : Int) = ((1 : Nat) : Int) from rfl, bits_and_u64_nat _ _ hu (by omega), Nat.and_one_is_mod]; exact beq_eq_false_iff_ne.2 (by omega)
    clear h
    go_enter Tryz.func105, Tryz.ntmps105
    go_wp2_with fail
    go_ret
    exact ⟨ret_i64 (by rw [HE.out]; omega), rfl⟩
def intR (o : Option (Nat × Nat)) : Value := match o with | some (v, n) => .tuple #[.int .i64 (uz v), .int .i64 n, .int .i64 0] | none => .tuple #[.int .i64 0, .int .i64 0, .int .i64 6]
theorem decA_bound : ∀ (l : List Int) (i acc : Nat) (v n : Nat), Byts l → i ≤ 9 → acc < 2 ^ (7 * i) → decA i acc l = some (v, n) → v < 18446744073709551616 ∧ i < n ∧ n ≤ i + l.length ∧ n ≤ 10
  | [], _, _, _, _, _, _, _, h => by cases h
  | b :: r, i, acc, v, n, hB, hi, ha, h => by
    have hb := hB b (by simp)
    rw [decA] at h
    split at h
    · cases h
    · rename_i hs
      split at h
      · rename_i hlt
        have h9 : i = 9 → b.toNat ≤ 1 := fun e => by omega
        have := dec_fit hi ha (show b.toNat < 128 by omega) h9
        cases h
        simp only [List.length_cons]
        refine ⟨this, by omega, by omega, by omega⟩
      · rename_i hge
        have hi9 : i ≤ 8 := by omega
        have := decA_bound r (i + 1) _ v n (fun x hx => hB x (by simp [hx])) (by omega) (decA_lt ha (Nat.mod_lt _ (by omega))) h
        simp only [List.length_cons]
        omega
theorem decU_bound {l : List Int} {v n : Nat} (hB : Byts l) (h : decU l = some (v, n)) : v < 18446744073709551616 ∧ 0 < n ∧ n ≤ l.length ∧ n ≤ 10 := by
  have := decA_bound l 0 0 v n hB (by omega) (by simp) h
  omega
set_option maxHeartbeats 1000000 in
theorem nInt_any (S : Nat → Prop) (l : List Int) (v : Value) (w : World) (hl : l.length ≤ maxLen) (hb : Byts l) (h : Row S w 1 l.length v (bV l)) :
    Calls Tryz.prog 85 #[v] w fun e w' => e = .returned (intR (decU l)) ∧ w' = w := by
  obtain ⟨a, cap, rfl, hcap⟩ := h.shape
  have HR := Lib.hid h; clear h
  have HB := Lib.hid hb; clear hb
  go_enter Tryz.func85, Tryz.ntmps85
  go_wp2_with fail
  refine (nUint_any S l _ w hl HB.out HR.out).mono ?_
  obtain ⟨R, hR⟩ : ∃ R, decU l = R := ⟨_, rfl⟩
  rw [hR]
  have HRE := Lib.hid hR; clear hR
  rintro e w' ⟨rfl, rfl⟩
  cases R with
  | none =>
    unfold numR
    go_wp2_with fail
    refine (nunz_any 0 _ (by omega)).mono ?_
    rintro e w' ⟨rfl, rfl⟩
    go_wp2_with fail
    go_ret3
    exact ⟨by rw [HRE.out]; rfl, rfl⟩
  | some p =>
    obtain ⟨u, n⟩ := p
    have HU := Lib.hid (decU_bound HB.out HRE.out)
    unfold numR
    go_wp2_with fail
    refine (nunz_any u _ HU.out.1).mono ?_
    rintro e w' ⟨rfl, rfl⟩
    go_wp2_with fail
    go_ret3
    exact ⟨by rw [HRE.out]; rfl, rfl⟩
theorem bV_drop (l : List Int) (p : Nat) : (bV l).drop p = bV (l.drop p) := by unfold bV; rw [List.map_drop]
theorem slice_fromB (a : Option Addr) (n cap p : Nat) (hp : p ≤ n) (hc : n ≤ cap) (hnil : PlainA a cap) : ∃ a', PlainA a' (cap - p) ∧
    (∀ w, (Instr.slice 26 (.slice a n cap) (some (.int .i64 (p : Int))) none none).run Tryz.prog w = .ok (.slice a' (n - p) (cap - p)) w) ∧
    ∀ S w (l : List Int), l.length = n → Row S w 1 n (.slice a n cap) (bV l) → Row S w 1 (n - p) (.slice a' (n - p) (cap - p)) (bV (l.drop p)) := by
  rcases hnil with ⟨rfl, rfl⟩ | ⟨b, off, rfl⟩
  · obtain rfl : n = 0 := by omega
    obtain rfl : p = 0 := by omega
    exact ⟨none, Or.inl ⟨rfl, rfl⟩, fun w => by simp [go_sem, sliced], fun S w l _ h => by simpa using h⟩
  · by_cases e : cap = p
    · obtain rfl : n = p := by omega
      subst e
      refine ⟨some ⟨b, off, none⟩, Or.inr ⟨b, off, rfl⟩, fun w => ?_, fun S w l hl h => ?_⟩
      · simp [go_sem, sliced]
      · rw [List.drop_of_length_le (by omega), Nat.sub_self]
        exact Row.nil _ _ _ _ _
    · refine ⟨some ⟨b, off + p, none⟩, Or.inr ⟨b, _, rfl⟩, fun w => ?_, fun S w l hl h => ?_⟩
      · simp [go_sem, sliced]
        rw [if_pos (by omega), if_neg e]
      · have := h.drop hp
        rw [Nat.mul_one, bV_drop] at this
        exact this
theorem Byts.drop {l : List Int} (h : Byts l) (p : Nat) : Byts (l.drop p) := fun b hb => h b (List.mem_of_mem_drop hb)
/-- A reader in the block rb: what is left, and its error. -/
def Rd (w : World) (rb : Nat) (l : List Int) (e : Int) : Prop :=
  ∃ a cap, w.heap[rb]? = some (.cells #[.slice a l.length cap, .int .i64 e] 115 (0, 0)) ∧ Row (fun b => b < rb) w 1 l.length (.slice a l.length cap) (bV l) ∧ PlainA a cap ∧ Byts l ∧ l.length ≤ maxLen
theorem Rd.keep {w w' : World} {rb : Nat} {l : List Int} {e : Int} (h : Rd w rb l e) (hk : ∀ b, b ≤ rb → w'.heap[b]? = w.heap[b]?) : Rd w' rb l e := by
  obtain ⟨a, cap, hb, hr, hp, hy, hl⟩ := h
  refine ⟨a, cap, (hk rb (Nat.le_refl _)).trans hb, hr.mono (fun _ h => h) (fun b off u hb hu => ?_), hp, hy, hl⟩
  have hlt : b < rb := hb
  unfold World.cell? at hu ⊢
  rw [hk b (by omega)]
  exact hu
theorem Rd.lt {w : World} {rb : Nat} {l : List Int} {e : Int} (h : Rd w rb l e) : rb < w.heap.size := by
  obtain ⟨a, cap, hb, _⟩ := h; exact (Array.getElem?_eq_some_iff.1 hb).1
theorem Rd.more {w w' : World} {rb : Nat} {l : List Int} {e : Int} (h : Rd w rb l e) (hm : More w w') : Rd w' rb l e :=
  h.keep fun _b hb => hm.block (Nat.lt_of_le_of_lt hb h.lt)
theorem open_any (rb : Nat) (l : List Int) (e : Int) (w : World) (h : Rd w rb l e) :
    Calls Tryz.prog 61 #[.pointer (some ⟨rb, 0, none⟩)] w fun r w' => r = .returned (.bool (e == 0)) ∧ w' = w := by
  obtain ⟨a, cap, hb, _⟩ := h
  have c1 : w.cell? ⟨rb, 1, none⟩ = some (.int .i64 e) := by simp [World.cell?, hb]
  clear hb
  go_enter Tryz.func61, Tryz.ntmps61
  go_wp2_with fail
  go_ret
  exact ⟨rfl, rfl⟩
theorem rErr_any (rb : Nat) (l : List Int) (e : Int) (w : World) (h : Rd w rb l e) :
    Calls Tryz.prog 66 #[.pointer (some ⟨rb, 0, none⟩)] w fun r w' => r = .returned (.int .i64 e) ∧ w' = w := by
  obtain ⟨a, cap, hb, _⟩ := h
  have c1 : w.cell? ⟨rb, 1, none⟩ = some (.int .i64 e) := by simp [World.cell?, hb]
  clear hb
  go_enter Tryz.func66, Tryz.ntmps66
  go_wp2_with fail
  go_ret
  exact ⟨rfl, rfl⟩
theorem grown_cell' {w w' : World} {g b o : Nat} {u : Value} (hg : w.grownBy w' (some g)) (hb : b ≠ g) (hu : w.cell? ⟨b, o, none⟩ = some u) : w'.cell? ⟨b, o, none⟩ = some u := by
  have h := hg.block b (cell_lt hu) (fun e => hb (by cases e; rfl))
  unfold World.cell? at hu ⊢
  rw [h]; exact hu
theorem set_block2 {w : World} {rb : Nat} {x y : Value} {t : TypeId} (hb : w.heap[rb]? = some (.cells #[x, y] t (0, 0))) (u : Value) :
    (w.setCell ⟨rb, 0, none⟩ u).heap[rb]? = some (.cells #[u, y] t (0, 0)) ∧ (w.setCell ⟨rb, 1, none⟩ u).heap[rb]? = some (.cells #[x, u] t (0, 0)) := by
  constructor <;> simp [World.setCell, Array.getElem?_modify, hb]
theorem setCell_grown' (w : World) (b o : Nat) (u : Value) : w.grownBy (w.setCell ⟨b, o, none⟩ u) (some b) :=
  ⟨rfl, rfl, rfl, by simp [World.setCell], fun k _ hne => by
    have hk : k ≠ b := fun e => hne (by rw [e])
    rw [Below.heap_setCell _ _ _ _ hk]⟩
set_option maxHeartbeats 1000000 in
theorem take_err (rb n : Nat) (l : List Int) (e0 e : Int) (w : World) (he : e ≠ 0) (h : Rd w rb l e0) :
    Calls Tryz.prog 63 #[.pointer (some ⟨rb, 0, none⟩), .int .i64 n, .int .i64 e] w fun r w' => r = .returned (.bool false) ∧ w.grownBy w' (some rb) ∧ Rd w' rb l e := by
  obtain ⟨a, cap, hb, hr, hp, hy, hl⟩ := h
  have c1 : w.cell? ⟨rb, 1, none⟩ = some (.int .i64 e0) := by simp [World.cell?, hb]
  have f1 : w.frozen? ⟨rb, 1, none⟩ = false := thaw hb _
  have HRd := Lib.hid (show Rd (w.setCell ⟨rb, 1, none⟩ (.int .i64 e)) rb l e from ⟨a, cap, (set_block2 hb _).2, hr.mono (fun _ h => h) (fun b off u hb' hu => grown_cell' (setCell_grown' w rb 1 _) (by have h3 : b < rb := hb'; omega) hu), hp, hy, hl⟩)
  clear hb hr hp hy hl
  have te : (e != 0) = true := by simpa using he
  clear he
  go_enter Tryz.func63, Tryz.ntmps63
  go_wp2_with fail
  go_ret
  exact ⟨rfl, setCell_grown' w rb 1 _, HRd.out⟩
set_option maxHeartbeats 1000000 in
theorem take_ok (rb n : Nat) (l : List Int) (e0 : Int) (w : World) (hn : n ≤ l.length) (h : Rd w rb l e0) :
    Calls Tryz.prog 63 #[.pointer (some ⟨rb, 0, none⟩), .int .i64 n, .int .i64 0] w fun r w' => r = .returned (.bool true) ∧ w.grownBy w' (some rb) ∧ Rd w' rb (l.drop n) e0 := by
  obtain ⟨a, cap, hb, hr, hp, hy, hl⟩ := h
  obtain ⟨a0, cap0, hs0, hcap⟩ := hr.shape
  cases hs0
  obtain ⟨a', hp', hsl, hrow⟩ := slice_fromB a l.length cap n hn hcap hp
  have c0 : w.cell? ⟨rb, 0, none⟩ = some (.slice a l.length cap) := by simp [World.cell?, hb]
  have f0 : w.frozen? ⟨rb, 0, none⟩ = false := thaw hb _
  have HRd := Lib.hid (show Rd (w.setCell ⟨rb, 0, none⟩ (.slice a' (l.length - n) (cap - n))) rb (l.drop n) e0 from
    ⟨a', cap - n, by rw [List.length_drop]; exact (set_block2 hb _).1, by rw [List.length_drop]; exact (hrow _ w l rfl hr).mono (fun _ h => h) (fun b off u hb' hu => grown_cell' (setCell_grown' w rb 0 _) (by have h3 : b < rb := hb'; omega) hu), hp', hy.drop n, by rw [List.length_drop]; omega⟩)
  clear hb hr hp hy hl hrow hp'
  generalize l.length = m at *
  go_enter Tryz.func63, Tryz.ntmps63
  go_wp2_with fail
  go_ret
  exact ⟨rfl, setCell_grown' w rb 0 _, HRd.out⟩
theorem Rd.row {w : World} {rb : Nat} {l : List Int} {e : Int} (h : Rd w rb l e) : ∃ a cap, w.cell? ⟨rb, 0, none⟩ = some (.slice a l.length cap) ∧ Row (fun b => b < rb) w 1 l.length (.slice a l.length cap) (bV l) ∧ Byts l ∧ l.length ≤ maxLen := by
  obtain ⟨a, cap, hb, hr, hp, hy, hl⟩ := h
  exact ⟨a, cap, by simp [World.cell?, hb], hr, hy, hl⟩
set_option maxHeartbeats 1000000 in
theorem rdI_shut (rb : Nat) (l : List Int) (e : Int) (w : World) (he : e ≠ 0) (h : Rd w rb l e) :
    Calls Tryz.prog 67 #[.pointer (some ⟨rb, 0, none⟩)] w fun r w' => r = .returned (.int .i64 0) ∧ w' = w := by
  have HD := Lib.hid h; clear h
  have te : (e == 0) = false := beq_eq_false_iff_ne.2 he
  clear he
  go_enter Tryz.func67, Tryz.ntmps67
  go_wp2_with fail
  refine (open_any rb l e w HD.out).mono ?_
  rw [te]
  rintro r w' ⟨rfl, rfl⟩
  go_wp2_with fail
  go_ret
  exact ⟨rfl, rfl⟩
set_option maxHeartbeats 1000000 in
theorem rdI_some (rb : Nat) (l : List Int) (w : World) (v n : Nat) (hd : decU l = some (v, n)) (h : Rd w rb l 0) :
    Calls Tryz.prog 67 #[.pointer (some ⟨rb, 0, none⟩)] w fun r w' => r = .returned (.int .i64 (uz v)) ∧ w.grownBy w' (some rb) ∧ Rd w' rb (l.drop n) 0 := by
  obtain ⟨a, cap, c0, hr, hy, hl⟩ := h.row
  have HD := Lib.hid h; clear h
  have HR := Lib.hid hr; clear hr
  have HU := Lib.hid (decU_bound hy hd)
  have HY := Lib.hid hy; clear hy
  have HE := Lib.hid hd; clear hd
  go_enter Tryz.func67, Tryz.ntmps67
  go_wp2_with fail
  refine (open_any rb l 0 w HD.out).mono ?_
  rw [show ((0 : Int) == 0) = true from rfl]
  rintro r w' ⟨rfl, rfl⟩
  go_wp2_with fail
  refine (nInt_any _ l _ _ hl HY.out HR.out).mono ?_
  rw [HE.out, show intR (some (v, n)) = .tuple #[.int .i64 (uz v), .int .i64 n, .int .i64 0] from rfl]
  rintro r w' ⟨rfl, rfl⟩
  go_wp2_with fail
  refine (take_ok rb n l 0 _ HU.out.2.2.1 HD.out).mono ?_
  rintro r w2 ⟨rfl, hg, hrd⟩
  have HG := Lib.hid hg; clear hg
  have HRD := Lib.hid hrd; clear hrd
  clear c0
  go_wp2_with fail
  go_ret
  exact ⟨rfl, HG.out, HRD.out⟩
set_option maxHeartbeats 1000000 in
theorem rdI_none (rb : Nat) (l : List Int) (w : World) (hd : decU l = none) (h : Rd w rb l 0) :
    Calls Tryz.prog 67 #[.pointer (some ⟨rb, 0, none⟩)] w fun r w' => r = .returned (.int .i64 0) ∧ w.grownBy w' (some rb) ∧ Rd w' rb l 6 := by
  obtain ⟨a, cap, c0, hr, hy, hl⟩ := h.row
  have HD := Lib.hid h; clear h
  have HR := Lib.hid hr; clear hr
  have HY := Lib.hid hy; clear hy
  have HE := Lib.hid hd; clear hd
  go_enter Tryz.func67, Tryz.ntmps67
  go_wp2_with fail
  refine (open_any rb l 0 w HD.out).mono ?_
  rw [show ((0 : Int) == 0) = true from rfl]
  rintro r w' ⟨rfl, rfl⟩
  go_wp2_with fail
  refine (nInt_any _ l _ _ hl HY.out HR.out).mono ?_
  rw [HE.out, show intR none = .tuple #[.int .i64 0, .int .i64 0, .int .i64 6] from rfl]
  rintro r w' ⟨rfl, rfl⟩
  go_wp2_with fail
  refine (take_err rb 0 l 0 6 _ (by decide) HD.out).mono ?_
  rintro r w2 ⟨rfl, hg, hrd⟩
  have HG := Lib.hid hg; clear hg
  have HRD := Lib.hid hrd; clear hrd
  clear c0
  go_wp2_with fail
  go_ret
  exact ⟨rfl, HG.out, HRD.out⟩
set_option maxHeartbeats 1000000 in
theorem newR_any (S : Nat → Prop) (l : List Int) (v : Value) (w : World) (hl : l.length ≤ 140737488355328) (hy : Byts l) (h : ByV S w l v) :
    Calls Tryz.prog 30 #[v] w fun r w' => ∃ rb, r = .returned (.pointer (some ⟨rb, 0, none⟩)) ∧ More w w' ∧ w.heap.size ≤ rb ∧ Rd w' rb l 0 := by
  obtain ⟨a, cap, rfl, hr, hp⟩ := h
  have HR := Lib.hid (show ByV S w l (.slice a l.length cap) from ⟨a, cap, rfl, hr, hp⟩)
  have HY := Lib.hid hy; clear hy hr
  obtain ⟨i0, hi0, hz0, hz1, hz2⟩ := info_parts infoB
  have HW1 := Lib.hid (show (w.alloc (.cells #[] 5)).ownsRow w.heap.size 5 1 (.slice (some ⟨w.heap.size, 0, none⟩) 0 0) 0 [] from ⟨rfl, Or.inr ⟨w.heap.size, 0, #[], rfl, Nat.le_refl _, alloc_last _ _, Nat.le_refl _, by unfold maxLen; omega, rfl, rfl⟩⟩)
  have hma : More w (w.alloc (.cells #[] 5)) := World.grownBy_alloc _ _ _
  have HMA := Lib.hid hma; clear hma
  have HM1 := Lib.hid (show 0 + l.length ≤ maxLen by unfold maxLen; omega)
  have HM2 := Lib.hid (show (0 + l.length) * 1 ≤ 140737488355328 by omega)
  have HLL := Lib.hid hl; clear hl
  have HF1 := Lib.hid (show (bV l).length = l.length * 1 by rw [bV_length]; omega)
  have HF2 := Lib.hid (bV_one l)
  have HBS := Lib.hid (show w.heap.size ≤ (w.alloc (.cells #[] 5)).heap.size by simp)
  cases a with
  | none =>
    obtain ⟨rfl, _, rfl⟩ := HR.out.none'
    go_enter Tryz.func30, Tryz.ntmps30
    go_wp2_with (at_builtin; refine wpList_append_own_none rfl _ _ _ rfl w.heap.size 5 i0 1 Tryz.underlying26 hi0 (.slice (some ⟨w.heap.size, 0, none⟩) 0 0) 0 [] rfl HW1.out rfl ?_)
    go_wp2_with fail
    go_ret
    refine ⟨w.heap.size + 1, rfl, ?_, by omega, some ⟨w.heap.size, 0, none⟩, 0, ?_, ?_, Or.inr ⟨_, _, rfl⟩, HY.out, by simp [maxLen]⟩
    · exact more_trans HMA.out (World.grownBy_alloc _ _ _)
    · exact alloc_at _ _ (by simp)
    · exact Row.nil _ _ _ _ _
  | some ad =>
    have HNEW := Lib.hid (show ∀ i u, (bV l)[i]? = some u → (w.alloc (.cells #[] 5)).cell? (ad.add i) = some u from (HR.out.below HMA.out.below).news)
    go_enter Tryz.func30, Tryz.ntmps30
    go_wp2_with (at_builtin; refine wpList_append_own _ rfl _ _ _ rfl w.heap.size 5 i0 _ 1 1 Tryz.underlying26 hi0 hz0 hz1 hz2 rfl (by omega) (.slice (some ⟨w.heap.size, 0, none⟩) 0 0) 0 [] rfl HW1.out ad l.length cap (bV l) rfl HF1.out HNEW.out HF2.out HM1.out HM2.out HBS.out ?_; intro v2 w3 hown2 hgrow2 hold2; rw [Nat.zero_add, List.nil_append] at hown2; obtain ⟨oa, ocap, rfl, hoo⟩ := owns_shape hown2; have HO2 := Lib.hid hown2; have HG2 := Lib.hid hgrow2; clear hown2 hgrow2 hold2 hoo)
    go_ret
    have hM3 : More w w3 := more_of (HMA.out.below.grown HG2.out HBS.out (fun y hy => by cases hy; exact Nat.le_refl _))
    have hA : More w3 (w3.alloc (.cells #[.slice oa l.length ocap, .int .i64 0] 115)) := World.grownBy_alloc _ _ _
    refine ⟨w3.heap.size, rfl, more_trans hM3 hA, hM3.size, oa, ocap, alloc_last _ _, ?_, plain_owns HO2.out, HY.out, by have := HLL.out; unfold maxLen; omega⟩
    exact (row_lt (by omega) (Row.of_owns HO2.out)).below hA.below
end Go.Proofs.YtemeppfikpafbaaGreatDoor

/- num.Reader at any state: Uint (107) with a bound, Byte (105), Int (161), Err (160), End (111). -/
namespace Go.Proofs.YtemeppfikpafbaaGreatDoor
open Go.RowKit
/-- What is left to be read, and the error. -/
abbrev RS := List Int × Int
def rByte (s : RS) : Int × RS := if s.2 = 0 then (match s.1 with | [] => (0, ([], 6)) | b :: r => (b, (r, 0))) else (0, s)
def rUint (most : Nat) (s : RS) : Nat × RS := if s.2 = 0 then (match decU s.1 with | none => (0, (s.1, 6)) | some (v, n) => if v ≤ most then (v, (s.1.drop n, 0)) else (0, (s.1, 2))) else (0, s)
def rInt (s : RS) : Int × RS := if s.2 = 0 then (match decU s.1 with | none => (0, (s.1, 6)) | some (v, n) => (uz v, (s.1.drop n, 0))) else (0, s)
def rEnd (s : RS) : Int := if s.2 = 0 then (if s.1 = [] then 0 else 6) else s.2
abbrev RdS (w : World) (rb : Nat) (s : RS) : Prop := Rd w rb s.1 s.2
set_option maxRecDepth 100000 in
set_option maxHeartbeats 2000000 in
theorem rdUint_any (rb : Nat) (s : RS) (most : Nat) (w : World) (_hm : most < 18446744073709551616) (h : RdS w rb s) :
    Calls Tryz.prog 33 #[.pointer (some ⟨rb, 0, none⟩), .int .u64 most] w fun r w' => r = .returned (.int .u64 (rUint most s).1) ∧ w.grownBy w' (some rb) ∧ RdS w' rb (rUint most s).2 := by
  obtain ⟨l, e⟩ := s
  have h : Rd w rb l e := h
  unfold rUint
  dsimp only
  by_cases he : e = 0
  · subst he
    rw [if_pos rfl]
    obtain ⟨a, cap, c0, hr, hy, hl⟩ := h.row
    have HD := Lib.hid h; clear h
    have HR := Lib.hid hr; clear hr
    cases hd : decU l with
    | none =>
      dsimp only
      have HY := Lib.hid hy; clear hy
      have HE := Lib.hid hd; clear hd
      go_enter Tryz.func33, Tryz.ntmps33
      go_wp2_with fail
      refine (open_any rb l 0 w HD.out).mono ?_
      rw [show ((0 : Int) == 0) = true from rfl]
      rintro r w' ⟨rfl, rfl⟩
      go_wp2_with fail
      refine (nUint_any _ l _ _ hl HY.out HR.out).mono ?_
      rw [HE.out, numR_none]
      rintro r w' ⟨rfl, rfl⟩
      go_wp2_with fail
      refine (take_err rb 0 l 0 6 _ (by decide) HD.out).mono ?_
      rintro r w2 ⟨rfl, hg, hrd⟩
      have HG := Lib.hid hg; clear hg
      have HRD := Lib.hid hrd; clear hrd
      clear c0
      go_wp2_with fail
      go_ret
      exact ⟨rfl, HG.out, HRD.out⟩
    | some vn =>
      obtain ⟨v, n⟩ := vn
      dsimp only
      have HU := Lib.hid (decU_bound hy hd)
      have HY := Lib.hid hy; clear hy
      have HE := Lib.hid hd; clear hd
      by_cases hv : v ≤ most
      · rw [if_pos hv]
        have hv' : (v : Int) ≤ most := by omega
        clear hv
        go_enter Tryz.func33, Tryz.ntmps33
        go_wp2_with fail
        refine (open_any rb l 0 w HD.out).mono ?_
        rw [show ((0 : Int) == 0) = true from rfl]
        rintro r w' ⟨rfl, rfl⟩
        go_wp2_with fail
        refine (nUint_any _ l _ _ hl HY.out HR.out).mono ?_
        rw [HE.out, numR_some]
        rintro r w' ⟨rfl, rfl⟩
        go_wp2_with fail
        refine (take_ok rb n l 0 _ HU.out.2.2.1 HD.out).mono ?_
        rintro r w2 ⟨rfl, hg, hrd⟩
        have HG := Lib.hid hg; clear hg
        have HRD := Lib.hid hrd; clear hrd
        clear c0
        go_wp2_with fail
        go_ret
        exact ⟨rfl, HG.out, HRD.out⟩
      · rw [if_neg hv]
        have hv' : (most : Int) < v := by omega
        clear hv
        go_enter Tryz.func33, Tryz.ntmps33
        go_wp2_with fail
        refine (open_any rb l 0 w HD.out).mono ?_
        rw [show ((0 : Int) == 0) = true from rfl]
        rintro r w' ⟨rfl, rfl⟩
        go_wp2_with fail
        refine (nUint_any _ l _ _ hl HY.out HR.out).mono ?_
        rw [HE.out, numR_some]
        rintro r w' ⟨rfl, rfl⟩
        go_wp2_with fail
        refine (take_err rb n l 0 2 _ (by decide) HD.out).mono ?_
        rintro r w2 ⟨rfl, hg, hrd⟩
        have HG := Lib.hid hg; clear hg
        have HRD := Lib.hid hrd; clear hrd
        clear c0
        go_wp2_with fail
        go_ret
        exact ⟨rfl, HG.out, HRD.out⟩
  · rw [if_neg he]
    dsimp only
    have HD := Lib.hid h; clear h
    have te : (e == 0) = false := beq_eq_false_iff_ne.2 he
    clear he
    go_enter Tryz.func33, Tryz.ntmps33
    go_wp2_with fail
    refine (open_any rb l e w HD.out).mono ?_
    rw [te]
    rintro r w' ⟨rfl, rfl⟩
    go_wp2_with fail
    go_ret
    exact ⟨rfl, World.grownBy.refl _ _, HD.out⟩
theorem rdInt_any (rb : Nat) (s : RS) (w : World) (h : RdS w rb s) :
    Calls Tryz.prog 67 #[.pointer (some ⟨rb, 0, none⟩)] w fun r w' => r = .returned (.int .i64 (rInt s).1) ∧ w.grownBy w' (some rb) ∧ RdS w' rb (rInt s).2 := by
  obtain ⟨l, e⟩ := s
  have h : Rd w rb l e := h
  unfold rInt
  dsimp only
  by_cases he : e = 0
  · subst he
    rw [if_pos rfl]
    cases hd : decU l with
    | none => exact rdI_none rb l w hd h
    | some vn => exact rdI_some rb l w vn.1 vn.2 hd h
  · rw [if_neg he]
    exact (rdI_shut rb l e w he h).mono fun r w' hh => ⟨hh.1, by rw [hh.2]; exact World.grownBy.refl _ _, by rw [hh.2]; exact h⟩
set_option maxRecDepth 100000 in
set_option maxHeartbeats 2000000 in
theorem rdByte_any (rb : Nat) (s : RS) (w : World) (h : RdS w rb s) :
    Calls Tryz.prog 31 #[.pointer (some ⟨rb, 0, none⟩)] w fun r w' => r = .returned (.int .u8 (rByte s).1) ∧ w.grownBy w' (some rb) ∧ RdS w' rb (rByte s).2 := by
  obtain ⟨l, e⟩ := s
  have h : Rd w rb l e := h
  unfold rByte
  dsimp only
  by_cases he : e = 0
  · subst he
    rw [if_pos rfl]
    have HD := Lib.hid h
    obtain ⟨a, cap, hb, hr, hp, hy, hl⟩ := h
    have c0 : w.cell? ⟨rb, 0, none⟩ = some (.slice a l.length cap) := by simp [World.cell?, hb]
    have f0 : w.frozen? ⟨rb, 0, none⟩ = false := thaw hb _
    have c1 : w.cell? ⟨rb, 1, none⟩ = some (.int .i64 0) := by simp [World.cell?, hb]
    have f1 : w.frozen? ⟨rb, 1, none⟩ = false := thaw hb _
    cases l with
    | nil =>
      dsimp only
      have HRd := Lib.hid (show Rd (w.setCell ⟨rb, 1, none⟩ (.int .i64 6)) rb [] 6 from ⟨a, cap, (set_block2 hb _).2, hr.mono (fun _ h => h) (fun b off u hb' hu => grown_cell' (setCell_grown' w rb 1 _) (by have h3 : b < rb := hb'; omega) hu), hp, hy, hl⟩)
      clear hb hr hp hy hl
      have hc0 : w.cell? ⟨rb, 0, none⟩ = some (.slice a 0 cap) := c0
      clear c0
      have hbr := cell_lt hc0
      go_enter Tryz.func31, Tryz.ntmps31
      go_wp2_with fail
      refine (open_any rb [] 0 w HD.out).mono ?_
      rw [show ((0 : Int) == 0) = true from rfl]
      rintro r w' ⟨rfl, rfl⟩
      go_wp2_with fail
      go_ret
      exact ⟨rfl, setCell_grown' _ rb 1 _, HRd.out⟩
    | cons x t =>
      dsimp only
      obtain ⟨a0, cap0, hs0, hcap⟩ := hr.shape
      cases hs0
      obtain ⟨a', hp', hsl, hrow⟩ := slice_fromB a (x :: t).length cap 1 (by simp) hcap hp
      obtain ⟨b, off, rfl, _, _, hc⟩ := hr.at (by simp)
      have g0 := hc 0 (.int .u8 x) rfl
      rw [Nat.add_zero] at g0
      have hbg := cell_lt g0
      have HRd := Lib.hid (show Rd (w.setCell ⟨rb, 0, none⟩ (.slice a' ((x :: t).length - 1) (cap - 1))) rb t 0 from
        ⟨a', cap - 1, (set_block2 hb _).1, (hrow _ w (x :: t) rfl hr).mono (fun _ h => h) (fun b off u hb' hu => grown_cell' (setCell_grown' w rb 0 _) (by have h3 : b < rb := hb'; omega) hu), hp', fun y hm => hy y (List.mem_cons_of_mem _ hm), by simp only [List.length_cons] at hl; omega⟩)
      have hbr := cell_lt c0
      have hln : (((x :: t).length : Int) == 0) = false := beq_eq_false_iff_ne.2 (by simp only [List.length_cons]; omega)
      have hl0 : (0 : Int) < (x :: t).length := by simp only [List.length_cons]; omega
      have hl1 : 1 ≤ (x :: t).length := by simp
      have hsl1 : ∀ w, (Instr.slice 26 (.slice (some ⟨b, off, none⟩) (x :: t).length cap) (some (.int .i64 1)) none none).run Tryz.prog w = .ok (.slice a' ((x :: t).length - 1) (cap - 1)) w := hsl
      clear hb hr hp hy hl hrow hp' hc hsl
      generalize (x :: t).length = m at *
      go_enter Tryz.func31, Tryz.ntmps31
      go_wp2_with fail
      refine (open_any rb (x :: t) 0 w HD.out).mono ?_
      rw [show ((0 : Int) == 0) = true from rfl]
      rintro r w' ⟨rfl, rfl⟩
      go_wp2_with fail
      go_ret
      exact ⟨rfl, setCell_grown' _ rb 0 _, HRd.out⟩
  · rw [if_neg he]
    dsimp only
    have HD := Lib.hid h; clear h
    have te : (e == 0) = false := beq_eq_false_iff_ne.2 he
    clear he
    go_enter Tryz.func31, Tryz.ntmps31
    go_wp2_with fail
    refine (open_any rb l e w HD.out).mono ?_
    rw [te]
    rintro r w' ⟨rfl, rfl⟩
    go_wp2_with fail
    go_ret
    exact ⟨rfl, World.grownBy.refl _ _, HD.out⟩
set_option maxRecDepth 100000 in
set_option maxHeartbeats 2000000 in
theorem rdEnd_any (rb : Nat) (s : RS) (w : World) (h : RdS w rb s) :
    Calls Tryz.prog 37 #[.pointer (some ⟨rb, 0, none⟩)] w fun r w' => r = .returned (.int .i64 (rEnd s)) ∧ w' = w := by
  obtain ⟨l, e⟩ := s
  have h : Rd w rb l e := h
  unfold rEnd
  dsimp only
  have HD := Lib.hid h
  obtain ⟨a, cap, c0, _, _, _⟩ := h.row
  clear h
  by_cases he : e = 0
  · subst he
    rw [if_pos rfl]
    cases l with
    | nil =>
      rw [if_pos rfl]
      have hc0 : w.cell? ⟨rb, 0, none⟩ = some (.slice a 0 cap) := c0
      clear c0
      go_enter Tryz.func37, Tryz.ntmps37
      go_wp2_with fail
      refine (rErr_any rb [] 0 w HD.out).mono ?_
      rintro r w' ⟨rfl, rfl⟩
      go_wp2_with fail
      go_ret
      exact ⟨rfl, rfl⟩
    | cons x t =>
      rw [if_neg (by simp)]
      have hln : (((x :: t).length : Int) == 0) = false := beq_eq_false_iff_ne.2 (by simp only [List.length_cons]; omega)
      generalize (x :: t).length = m at *
      go_enter Tryz.func37, Tryz.ntmps37
      go_wp2_with fail
      refine (rErr_any rb (x :: t) 0 w HD.out).mono ?_
      rintro r w' ⟨rfl, rfl⟩
      go_wp2_with fail
      go_ret
      exact ⟨rfl, rfl⟩
  · rw [if_neg he]
    have te : (e != 0) = true := by simpa using he
    clear he
    go_enter Tryz.func37, Tryz.ntmps37
    go_wp2_with fail
    refine (rErr_any rb l e w HD.out).mono ?_
    rintro r w' ⟨rfl, rfl⟩
    go_wp2_with fail
    go_ret
    exact ⟨rfl, rfl⟩
end Go.Proofs.YtemeppfikpafbaaGreatDoor

/- num.Bytes (158), Reader.Bytes (108). -/
namespace Go.Proofs.YtemeppfikpafbaaGreatDoor
open Go.RowKit
theorem slice_midB (b off n v L cap : Nat) (h1 : n + v ≤ L) (h2 : L ≤ cap) : ∃ a', PlainA a' (cap - n) ∧
    (∀ w, (Instr.slice 26 (.slice (some ⟨b, off, none⟩) L cap) (some (.int .i64 (n : Int))) (some (.int .i64 ((n : Int) + v))) none).run Tryz.prog w = .ok (.slice a' v (cap - n)) w) ∧
    ∀ S w (l : List Int), l.length = L → Row S w 1 L (.slice (some ⟨b, off, none⟩) L cap) (bV l) → Row S w 1 v (.slice a' v (cap - n)) (bV ((l.drop n).take v)) := by
  by_cases e : cap = n
  · obtain rfl : v = 0 := by omega
    refine ⟨some ⟨b, off, none⟩, Or.inr ⟨b, off, rfl⟩, fun w => ?_, fun S w l _ h => ?_⟩
    · simp [go_sem, sliced]
      rw [if_pos (by omega), if_pos e]
    · rw [List.take_zero]
      exact Row.nil _ _ _ _ _
  · refine ⟨some ⟨b, off + n, none⟩, Or.inr ⟨b, _, rfl⟩, fun w => ?_, fun S w l hl h => ?_⟩
    · simp [go_sem, sliced]
      rw [if_pos ⟨by omega, by omega⟩, if_pos (by omega), if_neg e, show ((n : Int) + v).toNat - n = v by omega]
    · have h3 := (h.drop (k := n) (by omega)).take (k := v) (by omega)
      rw [Nat.mul_one, Nat.mul_one, bV_drop] at h3
      have e2 : (bV (l.drop n)).take v = bV ((l.drop n).take v) := by unfold bV; rw [List.map_take]
      rw [e2] at h3
      exact h3
/-- The bytes that are read, and what is left. -/
def rBytes (most : Nat) (s : RS) : List Int × RS :=
  if s.2 = 0 then (match decU s.1 with | none => ([], (s.1, 6)) | some (v, n) => if v ≤ most then (if n + v ≤ s.1.length then ((s.1.drop n).take v, (s.1.drop (n + v), 0)) else ([], (s.1, 6))) else ([], (s.1, 3))) else ([], s)
set_option maxRecDepth 100000 in
set_option maxHeartbeats 2000000 in
theorem nBytes_none (S : Nat → Prop) (l : List Int) (v : Value) (most : Nat) (w : World) (hl : l.length ≤ maxLen) (hb : Byts l) (hd : decU l = none) (h : Row S w 1 l.length v (bV l)) :
    Calls Tryz.prog 64 #[v, .int .i64 most] w fun e w' => e = .returned (.tuple #[.slice none 0 0, .int .i64 0, .int .i64 6]) ∧ w' = w := by
  obtain ⟨a, cap, rfl, _⟩ := h.shape
  have HR := Lib.hid h; clear h
  have HE := Lib.hid hd; clear hd
  go_enter Tryz.func64, Tryz.ntmps64
  go_wp2_with fail
  refine (nUint_any S l _ _ hl hb HR.out).mono ?_
  rw [HE.out, numR_none]
  rintro r w' ⟨rfl, rfl⟩
  go_wp2_with fail
  go_ret3
  exact ⟨rfl, rfl⟩
set_option maxRecDepth 100000 in
set_option maxHeartbeats 2000000 in
theorem nBytes_lim (S : Nat → Prop) (l : List Int) (x : Value) (most v n : Nat) (w : World) (hl : l.length ≤ maxLen) (hb : Byts l) (hd : decU l = some (v, n)) (hm : most ≤ 9223372036854775807) (hv : ¬ v ≤ most) (h : Row S w 1 l.length x (bV l)) :
    Calls Tryz.prog 64 #[x, .int .i64 most] w fun e w' => e = .returned (.tuple #[.slice none 0 0, .int .i64 0, .int .i64 3]) ∧ w' = w := by
  obtain ⟨a, cap, rfl, _⟩ := h.shape
  have HR := Lib.hid h; clear h
  have HE := Lib.hid hd; clear hd
  have hv' : (most : Int) < v := by omega
  have hw : IntKind.u64.wrap (most : Int) = most := by rw [IntKind.wrap_u64]; omega
  clear hv
  go_enter Tryz.func64, Tryz.ntmps64
  go_wp2_with fail
  refine (nUint_any S l _ _ hl hb HR.out).mono ?_
  rw [HE.out, numR_some]
  rintro r w' ⟨rfl, rfl⟩
  go_wp2_with fail
  go_ret3
  exact ⟨rfl, rfl⟩
set_option maxRecDepth 100000 in
set_option maxHeartbeats 2000000 in
theorem nBytes_long (S : Nat → Prop) (l : List Int) (x : Value) (most v n : Nat) (w : World) (hl : l.length ≤ maxLen) (hb : Byts l) (hd : decU l = some (v, n)) (hm : most ≤ 9223372036854775807) (hv : v ≤ most) (hn : ¬ n + v ≤ l.length) (h : Row S w 1 l.length x (bV l)) :
    Calls Tryz.prog 64 #[x, .int .i64 most] w fun e w' => e = .returned (.tuple #[.slice none 0 0, .int .i64 0, .int .i64 6]) ∧ w' = w := by
  obtain ⟨a, cap, rfl, _⟩ := h.shape
  have HR := Lib.hid h; clear h
  have HE := Lib.hid hd
  have HU := decU_bound hb hd
  clear hd
  have HL := Lib.hid hl
  unfold maxLen at hl
  have hv' : ¬ (most : Int) < v := by omega
  have hw : IntKind.u64.wrap (most : Int) = most := by rw [IntKind.wrap_u64]; omega
  have hw2 : IntKind.i64.wrap ((l.length : Int) - n) = (l.length : Int) - n := by rw [IntKind.wrap_i64]; omega
  have hw3 : IntKind.u64.wrap ((l.length : Int) - n) = (l.length : Int) - n := by rw [IntKind.wrap_u64]; omega
  have hlt : (l.length : Int) - n < v := by omega
  clear hv hn HU hl
  go_enter Tryz.func64, Tryz.ntmps64
  go_wp2_with fail
  refine (nUint_any S l _ _ HL.out hb HR.out).mono ?_
  rw [HE.out, numR_some]
  rintro r w' ⟨rfl, rfl⟩
  go_wp2_with fail
  go_ret3
  exact ⟨rfl, rfl⟩
set_option maxRecDepth 100000 in
set_option maxHeartbeats 2000000 in
theorem nBytes_ok (l : List Int) (x : Value) (most v n : Nat) (w : World) (hl : l.length ≤ maxLen) (hb : Byts l) (hd : decU l = some (v, n)) (hm : most ≤ 9223372036854775807) (hv : v ≤ most) (hn : n + v ≤ l.length) (hv2 : v ≤ 140737488355328) (h : Row anyB w 1 l.length x (bV l)) :
    Calls Tryz.prog 64 #[x, .int .i64 most] w fun e w' => (∃ bv, e = .returned (.tuple #[bv, .int .i64 ((n : Int) + v), .int .i64 0]) ∧ w'.ownsRow w.heap.size 5 1 bv ((l.drop n).take v).length (bV ((l.drop n).take v))) ∧ Below w.heap.size w w' := by
  obtain ⟨a, cap, rfl, hcap⟩ := h.shape
  have HU := decU_bound hb hd
  obtain ⟨b, off, rfl, _, _, _⟩ := h.at (by omega)
  obtain ⟨a', hp', hsl, hrow⟩ := slice_midB b off n v l.length cap hn hcap
  have HSEG := Lib.hid (hrow anyB w l rfl h)
  have HPL := Lib.hid hp'; clear hp' hrow
  have HR := Lib.hid h; clear h
  have HE := Lib.hid hd
  clear hd
  obtain ⟨i0, hi0, hz0, hz1, hz2⟩ := info_parts infoB
  have HW1 := Lib.hid (show (w.alloc (.cells #[] 5)).ownsRow w.heap.size 5 1 (.slice (some ⟨w.heap.size, 0, none⟩) 0 0) 0 [] from ⟨rfl, Or.inr ⟨w.heap.size, 0, #[], rfl, Nat.le_refl _, alloc_last _ _, Nat.le_refl _, by unfold maxLen; omega, rfl, rfl⟩⟩)
  have HMA := Lib.hid (more_alloc w (.cells #[] 5))
  have HL := Lib.hid hl
  unfold maxLen at hl
  have hv' : ¬ (most : Int) < v := by omega
  have hw : IntKind.u64.wrap (most : Int) = most := by rw [IntKind.wrap_u64]; omega
  have hw2 : IntKind.i64.wrap ((l.length : Int) - n) = (l.length : Int) - n := by rw [IntKind.wrap_i64]; omega
  have hw3 : IntKind.u64.wrap ((l.length : Int) - n) = (l.length : Int) - n := by rw [IntKind.wrap_u64]; omega
  have hlt : ¬ (l.length : Int) - n < v := by omega
  have hw4 : IntKind.i64.wrap (v : Int) = v := by rw [IntKind.wrap_i64]; omega
  have hw5 : IntKind.i64.wrap ((n : Int) + v) = (n : Int) + v := by rw [IntKind.wrap_i64]; omega
  have hseg : ((l.drop n).take v).length = v := by rw [List.length_take, List.length_drop]; omega
  have HM1 := Lib.hid (show 0 + v ≤ maxLen by unfold maxLen; omega)
  have HM2 := Lib.hid (show (0 + v) * 1 ≤ 140737488355328 by omega)
  have HG := Lib.hid hseg
  clear hv hn HU hl
  rw [hseg]
  clear hseg
  generalize (l.drop n).take v = seg at *
  have HS0 := Lib.hid (show w.heap.size ≤ (w.alloc (.cells #[] 5)).heap.size from HMA.out.size)
  have HSG := Lib.hid (show Row anyB (w.alloc (.cells #[] 5)) 1 v (.slice a' v (cap - n)) (bV seg) from HSEG.out.below HMA.out.below)
  have HNI := Lib.hid (show NilA (.slice a' v (cap - n)) from fun m c e => by
    cases e
    rcases HPL.out with ⟨_, h⟩ | ⟨_, _, h⟩
    · exact h
    · cases h)
  go_enter Tryz.func64, Tryz.ntmps64
  go_wp2_with fail
  refine (nUint_any anyB l _ _ HL.out hb HR.out).mono ?_
  rw [HE.out, numR_some]
  rintro r w' ⟨rfl, rfl⟩
  go_wp2_with (at_builtin; refine wpList_append_rowC rfl _ _ 26 rfl w'.heap.size 5 i0 _ 1 1 Tryz.underlying26 hi0 hz0 hz1 hz2 rfl (by omega) (.slice (some ⟨w'.heap.size, 0, none⟩) 0 0) 0 [] rfl HW1.out (.slice a' v (cap - n)) v (bV seg) rfl HSG.out HNI.out (bV_one seg) HM1.out HM2.out HS0.out ?_; intro v2 w2 hown hgrow; rw [Nat.zero_add, List.nil_append] at hown; obtain ⟨ga, gc, rfl, _⟩ := owns_shape hown)
  have HB2 := Lib.hid (show Below w'.heap.size w' w2 from HMA.out.below.grown hgrow HS0.out (fun z hz => (HW1.out.lt z hz).1))
  have HO2 := Lib.hid hown
  clear hown hgrow
  go_wp2_with fail
  go_ret3
  exact ⟨⟨_, rfl, HO2.out⟩, HB2.out⟩
theorem grown_any {w w1 w2 : World} {g : Option Nat} (h : More w w1) (k : w1.grownBy w2 g) : w.grownBy w2 g :=
  ⟨k.os.trans h.os, k.tape.trans h.tape, k.output.trans h.output, Nat.le_trans h.size k.size, fun j hj hne => (k.block j (Nat.lt_of_lt_of_le hj h.size) hne).trans (h.block hj)⟩
theorem grown_trans {w w1 w2 : World} {g : Option Nat} (h : w.grownBy w1 g) (k : w1.grownBy w2 g) : w.grownBy w2 g :=
  ⟨k.os.trans h.os, k.tape.trans h.tape, k.output.trans h.output, Nat.le_trans h.size k.size, fun j hj hne => (k.block j (Nat.lt_of_lt_of_le hj h.size) hne).trans (h.block j hj hne)⟩
set_option maxRecDepth 100000 in
set_option maxHeartbeats 2000000 in
theorem rdBytes_any (rb : Nat) (s : RS) (most : Nat) (w : World) (hm : most ≤ 140737488355328) (h : RdS w rb s) :
    Calls Tryz.prog 34 #[.pointer (some ⟨rb, 0, none⟩), .int .i64 most] w fun r w' => (∃ bv, r = .returned bv ∧ w'.ownsRow w.heap.size 5 1 bv (rBytes most s).1.length (bV (rBytes most s).1)) ∧ w.grownBy w' (some rb) ∧ RdS w' rb (rBytes most s).2 := by
  obtain ⟨l, e⟩ := s
  have h : Rd w rb l e := h
  unfold rBytes
  dsimp only
  by_cases he : e = 0
  · subst he
    rw [if_pos rfl]
    obtain ⟨a, cap, c0, hr, hy, hl⟩ := h.row
    have HD := Lib.hid h; clear h
    have HR := Lib.hid (hr.mono (S' := anyB) (fun _ _ => trivial) (fun _ _ _ _ h => h)); clear hr
    have HLM := Lib.hid hl
    cases hd : decU l with
    | none =>
      dsimp only
      have HC := Lib.hid (nBytes_none anyB l _ most w HLM.out hy hd HR.out)
      clear hd hy hl
      go_enter Tryz.func34, Tryz.ntmps34
      go_wp2_with fail
      refine (open_any rb l 0 w HD.out).mono ?_
      rw [show ((0 : Int) == 0) = true from rfl]
      rintro r w' ⟨rfl, rfl⟩
      go_wp2_with fail
      refine HC.out.mono ?_
      rintro r w' ⟨rfl, rfl⟩
      go_wp2_with fail
      refine (take_err rb 0 l 0 6 _ (by decide) HD.out).mono ?_
      rintro r w2 ⟨rfl, hg, hrd⟩
      have HG := Lib.hid hg; clear hg
      have HRD := Lib.hid hrd; clear hrd
      clear c0
      go_wp2_with fail
      go_ret
      exact ⟨⟨_, rfl, World.ownsRow_nil _ _ _ _⟩, HG.out, HRD.out⟩
    | some vn =>
      obtain ⟨v, n⟩ := vn
      dsimp only
      by_cases hv : v ≤ most
      · rw [if_pos hv]
        by_cases hn : n + v ≤ l.length
        · rw [if_pos hn]
          dsimp only
          have HC := Lib.hid (nBytes_ok l _ most v n w HLM.out hy hd (by omega) hv hn (by omega) HR.out)
          have HU := Lib.hid hn
          have hcast : ((n : Int) + v) = ((n + v : Nat) : Int) := by omega
          rw [hcast] at HC
          clear hd hy hl hv hn hcast
          generalize n + v = m at *
          generalize (l.drop n).take v = seg at *
          go_enter Tryz.func34, Tryz.ntmps34
          go_wp2_with fail
          refine (open_any rb l 0 w HD.out).mono ?_
          rw [show ((0 : Int) == 0) = true from rfl]
          rintro r w' ⟨rfl, rfl⟩
          go_wp2_with fail
          refine HC.out.mono ?_
          rintro r w2 ⟨⟨bv, rfl, ho⟩, hb⟩
          have HO := Lib.hid ho
          have HB := Lib.hid (more_of hb)
          obtain ⟨ba, bc, rfl, _⟩ := owns_shape ho
          clear ho hb
          go_wp2_with fail
          refine (take_ok rb m l 0 _ HU.out (HD.out.more HB.out)).mono ?_
          rintro r w3 ⟨rfl, hg, hrd⟩
          have HRD := Lib.hid hrd; clear hrd
          have HOF := Lib.hid (owns_keep HO.out (fun z hz => hg.block z (HO.out.lt z hz).2 (fun e => by
            have h1 := (HO.out.lt z hz).1
            have h2 := HD.out.lt
            have h3 : z = rb := by injection e
            omega)))
          have HG := Lib.hid (grown_any HB.out hg); clear hg
          clear c0
          go_wp2_with fail
          go_ret
          exact ⟨⟨_, rfl, HOF.out⟩, HG.out, HRD.out⟩
        · rw [if_neg hn]
          dsimp only
          have HC := Lib.hid (nBytes_long anyB l _ most v n w HLM.out hy hd (by omega) hv hn HR.out)
          clear hd hy hl hv hn
          go_enter Tryz.func34, Tryz.ntmps34
          go_wp2_with fail
          refine (open_any rb l 0 w HD.out).mono ?_
          rw [show ((0 : Int) == 0) = true from rfl]
          rintro r w' ⟨rfl, rfl⟩
          go_wp2_with fail
          refine HC.out.mono ?_
          rintro r w' ⟨rfl, rfl⟩
          go_wp2_with fail
          refine (take_err rb 0 l 0 6 _ (by decide) HD.out).mono ?_
          rintro r w2 ⟨rfl, hg, hrd⟩
          have HG := Lib.hid hg; clear hg
          have HRD := Lib.hid hrd; clear hrd
          clear c0
          go_wp2_with fail
          go_ret
          exact ⟨⟨_, rfl, World.ownsRow_nil _ _ _ _⟩, HG.out, HRD.out⟩
      · rw [if_neg hv]
        dsimp only
        have HC := Lib.hid (nBytes_lim anyB l _ most v n w HLM.out hy hd (by omega) hv HR.out)
        clear hd hy hl hv
        go_enter Tryz.func34, Tryz.ntmps34
        go_wp2_with fail
        refine (open_any rb l 0 w HD.out).mono ?_
        rw [show ((0 : Int) == 0) = true from rfl]
        rintro r w' ⟨rfl, rfl⟩
        go_wp2_with fail
        refine HC.out.mono ?_
        rintro r w' ⟨rfl, rfl⟩
        go_wp2_with fail
        refine (take_err rb 0 l 0 3 _ (by decide) HD.out).mono ?_
        rintro r w2 ⟨rfl, hg, hrd⟩
        have HG := Lib.hid hg; clear hg
        have HRD := Lib.hid hrd; clear hrd
        clear c0
        go_wp2_with fail
        go_ret
        exact ⟨⟨_, rfl, World.ownsRow_nil _ _ _ _⟩, HG.out, HRD.out⟩
  · rw [if_neg he]
    dsimp only
    have HD := Lib.hid h; clear h
    have te : (e == 0) = false := beq_eq_false_iff_ne.2 he
    clear he
    go_enter Tryz.func34, Tryz.ntmps34
    go_wp2_with fail
    refine (open_any rb l e w HD.out).mono ?_
    rw [te]
    rintro r w' ⟨rfl, rfl⟩
    go_wp2_with fail
    go_ret
    exact ⟨⟨_, rfl, World.ownsRow_nil _ _ _ _⟩, World.grownBy.refl _ _, HD.out⟩
end Go.Proofs.YtemeppfikpafbaaGreatDoor

