/- Texts RawG, RdrG, laid together. -/
import Derived.Laws.BitsLemmas
import Derived.Laws.Bits64
import Derived.Test.YtemeppfikpafbaaRs
import Derived.Test.YtemeppfikpafbaaRx
import Derived.Test.YtemeppfikpafbaaRz
/- The argument Raw, a whole certificate: small facts for the walks of the laws. -/
namespace Go.Proofs.Ytemeppfikpafbaa
open Go.RowKit
theorem raw_size (x : RawC) : x.cells.toArray.size = 12 := rfl
theorem info94 : (Try.prog.info? 94).map (·.size) = some 12 := by kernel_rfl
theorem wpList_load94 {ops : Array Oper} {rest : List Oper} {o : Oper} {a : Act} {w : World} {Q : Exit → Act → World → Prop} (hgd : o.guard = none) (x : Operand) (ho : o.op = .load 94 x) (g : Nat) (hx : a.eval x = .pointer (some ⟨g, 0, none⟩)) (cs : Array Value) (hg : w.heap[g]? = some (.cells cs 94)) (hs : cs.size = 12)
    (h : wpList Try.prog ops Q rest (a.put o.dst (.agg cs)) w) : wpList Try.prog ops Q (o :: rest) a w :=
  wpList_plain hgd fun _ hK => wp_load_row 94 x ho g hx 94 cs (0, 0) _ hg Try.underlying94 rfl (by rw [hs]; exact info94) (hK _ _ h)
theorem cert_ones {w : World} {arr : Array Value} {c : Cert} (h : CertAt w arr c) (k : CertOk arr c) : arr.all (·.oneCell') = true := by
  obtain ⟨a1, c1, e1, _⟩ := h.set.row.shape
  obtain ⟨a2, c2, e2, _⟩ := h.und.shape
  obtain ⟨a3, c3, e3, _⟩ := h.hol.shape
  rw [Array.all_eq_true_iff_forall_mem]
  intro v hv
  obtain ⟨i, hi, e⟩ := Array.getElem_of_mem hv
  have hsz := h.size
  have hg : arr[i]? = some v := by rw [← e]; exact Array.getElem?_eq_getElem hi
  by_cases h32 : i < 32
  · obtain ⟨n, hn, _⟩ := k.fl i h32
    rw [hn] at hg; cases hg; rfl
  · have hj : i = 32 ∨ i = 33 ∨ i = 34 ∨ i = 35 ∨ i = 36 ∨ i = 37 ∨ i = 38 := by omega
    rcases hj with rfl | rfl | rfl | rfl | rfl | rfl | rfl
    · rw [h.q] at hg; cases hg; rfl
    · rw [h.hor] at hg; cases hg; rfl
    · rw [h.sv, e1] at hg; cases hg; rfl
    · rw [h.uv, e2] at hg; cases hg; rfl
    · rw [h.hv, e3] at hg; cases hg; rfl
    · rw [h.wit] at hg; cases hg; rfl
    · rw [h.spl] at hg; cases hg; rfl
theorem RawC.Ok.more {w w' : World} {x : RawC} (h : x.Ok w) (hm : More w w') : x.Ok w' :=
  ⟨h.fl, h.q, h.hor, h.wit, h.spl, h.C.below hm.below, fun p hp => ⟨(h.Ce p hp).arg.more hm, (h.Ce p hp).key, (h.Ce p hp).t, (h.Ce p hp).d, (h.Ce p hp).len, (h.Ce p hp).i64⟩, h.Cl, h.U.below hm.below, h.Ue, h.Ul, h.H.below hm.below, fun p hp => ⟨(h.He p hp).at'.more hm, (h.He p hp).m, fun a ha => ⟨((h.He p hp).ars a ha).row.below hm.below, ((h.He p hp).ars a ha).nil, ((h.He p hp).ars a ha).tk, ((h.He p hp).ars a ha).hd, ((h.He p hp).ars a ha).len, ((h.He p hp).ars a ha).i64⟩⟩, h.Hl, h.O.below hm.below, h.Oe, h.Ol⟩
end Go.Proofs.Ytemeppfikpafbaa

/- num.Uint (156), Int (198), Unzigzag (236); num.Reader: NewReader (104), open (155), take (157), Uint (107), Int (161), Err (160); ported from the first seat. -/
namespace Go.Proofs.Ytemeppfikpafbaa
open Go.RowKit
theorem bV_get (l : List Int) (j : Nat) (h : j < l.length) : (bV l)[j]? = some (.int .u8 l[j]) := by simp [bV, h]
/-- nil, or an address of its own. -/
def PlainA (a : Option Addr) (c : Nat) : Prop := (a = none ∧ c = 0) ∨ ∃ b off, a = some ⟨b, off, none⟩
theorem PlainA.nil {a : Option Addr} {c : Nat} (h : PlainA a c) (e : a = none) : c = 0 := by
  rcases h with h | ⟨b, off, h⟩
  · exact h.2
  · rw [h] at e; cases e
/-- A slice that reads as bytes. -/
def ByV (S : Nat → Prop) (w : World) (l : List Int) (v : Value) : Prop := ∃ a cap, v = .slice a l.length cap ∧ Row S w 1 l.length v (bV l) ∧ PlainA a cap
theorem ByV.below {S : Nat → Prop} {w w' : World} {l : List Int} {v : Value} (hB : Below w.heap.size w w') (h : ByV S w l v) : ByV S w' l v := by
  obtain ⟨a, cap, rfl, hr, hp⟩ := h
  exact ⟨a, cap, rfl, hr.below hB, hp⟩
theorem ByV.mono {S S' : Nat → Prop} {w : World} {l : List Int} {v : Value} (hS : ∀ b, S b → S' b) (h : ByV S w l v) : ByV S' w l v := by
  obtain ⟨a, cap, rfl, hr, hp⟩ := h
  exact ⟨a, cap, rfl, hr.mono hS (fun _ _ _ _ h => h), hp⟩
theorem ByV.nil (S : Nat → Prop) (w : World) : ByV S w [] (.slice none 0 0) := ⟨none, 0, rfl, Row.nil _ _ _ _ _, Or.inl ⟨rfl, rfl⟩⟩
theorem plain_owns {w : World} {B : Nat} {e : TypeId} {n size cap : Nat} {a : Option Addr} {xs : List Value} (h : w.ownsRow B e size (.slice a n cap) n xs) : PlainA a cap := by
  obtain ⟨_, h | ⟨g, c, cur, h, _⟩⟩ := h
  · have := h.1; simp at this; exact Or.inl ⟨this.1, this.2.2⟩
  · cases h; exact Or.inr ⟨g, 0, rfl⟩
theorem ByV.of_owns {w : World} {B : Nat} {l : List Int} {v : Value} (h : w.ownsRow B 5 1 v l.length (bV l)) : ByV (fun x => B ≤ x) w l v := by
  obtain ⟨a, cap, rfl, _⟩ := owns_shape h
  exact ⟨a, cap, rfl, Row.of_owns h, plain_owns h⟩
/-- What an append law asks of its source. -/
theorem ByV.news {S : Nat → Prop} {w : World} {l : List Int} {ad : Addr} {n cap : Nat} (h : ByV S w l (.slice (some ad) n cap)) : ∀ i u, (bV l)[i]? = some u → w.cell? (ad.add i) = some u := fun i u hu => by
  obtain ⟨a, c, e, hr, _⟩ := h
  cases e
  have hne : l.length ≠ 0 := by
    intro e
    have : l = [] := List.length_eq_zero_iff.1 e
    subst this; simp [bV] at hu
  obtain ⟨b2, off2, he, _, _, hc2⟩ := hr.at hne
  cases he
  rw [Addr.add_lit]
  exact hc2 i u hu
theorem ByV.none' {S : Nat → Prop} {w : World} {l : List Int} {n cap : Nat} (h : ByV S w l (.slice none n cap)) : l = [] ∧ n = 0 ∧ cap = 0 := by
  obtain ⟨a, c, e, hr, hp⟩ := h
  cases e
  have hc : cap = 0 := hp.nil rfl
  have hn : l.length = 0 := by
    by_cases hn : l.length = 0
    · exact hn
    · obtain ⟨_, _, he, _⟩ := hr.at hn; cases he
  exact ⟨List.length_eq_zero_iff.1 hn, hn, hc⟩
theorem row_lt {S : Nat → Prop} {w : World} {size n : Nat} {v : Value} {xs : List Value} (hs : 0 < size) (h : Row S w size n v xs) : Row (fun b => b < w.heap.size) w size n v xs :=
  h.mono2 hs (fun _ _ _ _ hc => ⟨cell_lt hc, hc⟩)
/-- The number that goes on at the i-th byte, and how many bytes it has. -/
def decA : Nat → Nat → List Int → Option (Nat × Nat)
  | _, _, [] => none
  | i, acc, b :: r => if (i = 9 ∧ 1 < b) ∨ (0 < i ∧ b = 0) then none else if b < 128 then some (acc + b.toNat * 2 ^ (7 * i), i + 1) else decA (i + 1) (acc + (b.toNat % 128) * 2 ^ (7 * i)) r
def decU (l : List Int) : Option (Nat × Nat) := decA 0 0 l
def Byts (l : List Int) : Prop := ∀ b ∈ l, 0 ≤ b ∧ b ≤ 255
theorem decA_stop {i acc : Nat} {b : Int} {r : List Int} (h : (i = 9 ∧ 1 < b) ∨ (0 < i ∧ b = 0)) : decA i acc (b :: r) = none := by rw [decA, if_pos h]
theorem decA_end {i acc : Nat} {b : Int} {r : List Int} (h : ¬ ((i = 9 ∧ 1 < b) ∨ (0 < i ∧ b = 0))) (hb : b < 128) : decA i acc (b :: r) = some (acc + b.toNat * 2 ^ (7 * i), i + 1) := by rw [decA, if_neg h, if_pos hb]
theorem decA_on {i acc : Nat} {b : Int} {r : List Int} (h : ¬ ((i = 9 ∧ 1 < b) ∨ (0 < i ∧ b = 0))) (hb : ¬ b < 128) : decA i acc (b :: r) = decA (i + 1) (acc + (b.toNat % 128) * 2 ^ (7 * i)) r := by rw [decA, if_neg h, if_neg hb]
theorem pow7 (i : Nat) : 2 ^ (7 * (i + 1)) = 128 * 2 ^ (7 * i) := by rw [Nat.mul_add, Nat.pow_add]; omega
theorem decA_lt {i acc : Nat} {b : Nat} (ha : acc < 2 ^ (7 * i)) (hb : b < 128) : acc + b * 2 ^ (7 * i) < 2 ^ (7 * (i + 1)) := by
  rw [pow7]
  have := Nat.mul_le_mul_right (2 ^ (7 * i)) (show b + 1 ≤ 128 by omega)
  rw [Nat.add_mul] at this
  omega
theorem pow7_le {i : Nat} (hi : i ≤ 8) : 2 ^ (7 * (i + 1)) ≤ 9223372036854775808 := by
  have : 2 ^ (7 * (i + 1)) ≤ 2 ^ 63 := Nat.pow_le_pow_right (by omega) (by omega)
  exact this
/-- What is added fits. -/
theorem dec_fit {i acc b : Nat} (hi : i ≤ 9) (ha : acc < 2 ^ (7 * i)) (hb : b < 128) (h9 : i = 9 → b ≤ 1) : acc + b * 2 ^ (7 * i) < 18446744073709551616 := by
  by_cases e : i = 9
  · subst e
    have := h9 rfl
    have h2 : (2 : Nat) ^ (7 * 9) = 9223372036854775808 := by decide
    rw [h2] at ha ⊢
    have : b * 9223372036854775808 ≤ 1 * 9223372036854775808 := Nat.mul_le_mul_right _ this
    omega
  · have := decA_lt ha hb
    have := pow7_le (show i ≤ 8 by omega)
    omega
theorem or_add {i acc b : Nat} (ha : acc < 2 ^ (7 * i)) : acc ||| (b * 2 ^ (7 * i)) = acc + b * 2 ^ (7 * i) := by
  rw [Nat.or_comm, ← Nat.shiftLeft_eq, ← Nat.shiftLeft_add_eq_or_of_lt ha, Nat.shiftLeft_eq, Nat.add_comm]
def numR (o : Option (Nat × Nat)) (k : IntKind) : Value := match o with | some (v, n) => .tuple #[.int .u64 v, .int .i64 n, .int k 0] | none => .tuple #[.int .u64 0, .int .i64 0, .int k 6]
theorem bits_and_all : ∀ x : Fin 256, bits BinOp.and IntKind.u8 ((x.val : Nat) : Int) 127 = ((x.val % 128 : Nat) : Int) := by decide +kernel
theorem bits_and127 {x : Int} (h0 : 0 ≤ x) (h1 : x ≤ 255) : bits BinOp.and IntKind.u8 x 127 = ((x.toNat % 128 : Nat) : Int) := by
  have h := bits_and_all ⟨x.toNat, by omega⟩
  rwa [show ((x.toNat : Nat) : Int) = x by omega] at h
theorem dec_or {j A : Nat} {x : Int} (hj : j ≤ 9) (h0 : 0 ≤ x) (h1 : x ≤ 255) (hA : A < 2 ^ (7 * j)) (h9 : j = 9 → x ≤ 1) : bits BinOp.or IntKind.u64 (A : Int) (IntKind.u64.wrap (IntKind.u64.wrap (bits BinOp.and IntKind.u8 x 127) * 2 ^ (7 * j))) = ((A + (x.toNat % 128) * 2 ^ (7 * j) : Nat) : Int) := by
  have hb : x.toNat % 128 < 128 := Nat.mod_lt _ (by omega)
  have hf := dec_fit hj hA hb (fun e => by have := h9 e; omega)
  rw [bits_and127 h0 h1]
  generalize x.toNat % 128 = b at *
  have e1 : IntKind.u64.wrap (IntKind.u64.wrap ((b : Nat) : Int) * 2 ^ (7 * j)) = ((b * 2 ^ (7 * j) : Nat) : Int) := by
    rw [show IntKind.u64.wrap ((b : Nat) : Int) = (b : Int) by rw [IntKind.wrap_u64]; omega]
    rw [show ((b : Int) * 2 ^ (7 * j)) = ((b * 2 ^ (7 * j) : Nat) : Int) by rw [Int.natCast_mul, Int.natCast_pow]; rfl]
    rw [IntKind.wrap_u64]
    omega
  rw [e1, bits_or_u64_nat _ _ (by omega) (by omega), or_add hA]
theorem numR_none (k : IntKind) : numR none k = .tuple #[.int .u64 0, .int .i64 0, .int k 6] := rfl
theorem numR_some (v n : Nat) (k : IntKind) : numR (some (v, n)) k = .tuple #[.int .u64 v, .int .i64 n, .int k 0] := rfl
set_option maxRecDepth 100000 in
set_option maxHeartbeats 1000000 in
theorem nUint_any (S : Nat → Prop) (l : List Int) (v : Value) (w : World) (hl : l.length ≤ maxLen) (hb : Byts l) (h : Row S w 1 l.length v (bV l)) :
    Calls Try.prog 156 #[v] w fun e w' => e = .returned (numR (decU l) .i64) ∧ w' = w := by
  obtain ⟨a, cap, rfl, hcap⟩ := h.shape
  have HR := Lib.hid h; clear h
  have HB := Lib.hid hb; clear hb
  unfold maxLen at hl
  obtain ⟨R, hR⟩ : ∃ R, decU l = R := ⟨_, rfl⟩
  rw [hR]
  have HRE := Lib.hid hR; clear hR
  go_enter Try.func156, Try.ntmps156
  go_wp2_with fail
  go_loop [2, 9] (fun acc i => ∃ j A : Nat, j ≤ l.length ∧ j ≤ 9 ∧ i = .int .i64 j ∧ acc = .int .u64 A ∧ Hid (A < 2 ^ (7 * j)) ∧ Hid (decA j A (l.drop j) = R)) (fun _ i => l.length - (intOf i).toNat)
  case atStart => exact ⟨0, 0, Nat.zero_le _, by omega, rfl, rfl, Lib.hid (by simp), HRE⟩
  case round =>
    obtain ⟨j, A, hj, hj9, rfl, rfl, HA, HD⟩ := hrel
    by_cases hlt : j < l.length
    · obtain ⟨b, off, rfl, _, _, hc⟩ := HR.out.at (by omega)
      have g0 := hc j _ (bV_get l j hlt)
      clear hc
      have HDR := Lib.hid (show decA j A (l[j] :: l.drop (j + 1)) = R by rw [← List.drop_eq_getElem_cons hlt]; exact HD.out)
      have hx := HB.out _ (List.getElem_mem hlt)
      obtain ⟨x0, x1⟩ := hx
      generalize l[j] = x at *
      by_cases h9 : j = 9 ∧ 1 < x
      · obtain ⟨rfl, hx1⟩ := h9
        have HE := Lib.hid (show R = none by rw [← HDR.out, decA_stop (Or.inl ⟨rfl, hx1⟩)])
        go_wp2_with fail
        go_ret3
        exact ⟨by rw [HE.out]; rfl, rfl⟩
      · have H9 := Lib.hid h9
        have hor := dec_or hj9 x0 x1 HA.out (fun e => by have := H9.out; omega)
        obtain ⟨N, hN⟩ : ∃ N, A + (x.toNat % 128) * 2 ^ (7 * j) = N := ⟨_, rfl⟩
        rw [hN] at hor
        have HN := Lib.hid hN; clear hN h9
        by_cases hx : x < 128
        · have tx : (x / 128 == 0) = true := by rw [beq_iff_eq]; omega
          have HX := Lib.hid hx
          by_cases hz : x = 0 ∧ 0 < j
          · obtain ⟨hz1, hz2⟩ := hz
            have HE := Lib.hid (show R = none by rw [← HDR.out, decA_stop (Or.inr ⟨hz2, hz1⟩)])
            subst hz1
            clear hx
            by_cases e9 : j = 9
            · subst e9
              go_wp2_with fail
              go_ret3
              exact ⟨by rw [HE.out]; rfl, rfl⟩
            · have t9 : ((j : Int) == 9) = false := beq_eq_false_iff_ne.2 (by omega)
              go_wp2_with fail
              go_ret3
              exact ⟨by rw [HE.out]; rfl, rfl⟩
          · have HZ := Lib.hid hz
            have HE := Lib.hid (show R = some (N, j + 1) by
              rw [← HDR.out, decA_end (by have := H9.out; have := HZ.out; omega) hx, ← HN.out, show x.toNat % 128 = x.toNat by omega])
            clear hx hz
            by_cases hz0 : x = 0
            · have hj0 : j = 0 := by have := HZ.out; omega
              have hjn : ¬ 0 < j := by omega
              have t9 : ((j : Int) == 9) = false := beq_eq_false_iff_ne.2 (by omega)
              clear hj0
              subst hz0
              go_wp2_with fail
              go_ret3
              exact ⟨by rw [HE.out]; rfl, rfl⟩
            · have tz : (x == 0) = false := beq_eq_false_iff_ne.2 hz0
              by_cases e9 : j = 9
              · subst e9
                have hx1 : ¬ 1 < x := by have := H9.out; omega
                have hor9 : bits BinOp.or IntKind.u64 (A : Int) (IntKind.u64.wrap (IntKind.u64.wrap (bits BinOp.and IntKind.u8 x 127) * 9223372036854775808)) = (N : Int) := by
                  rw [show (9223372036854775808 : Int) = 2 ^ (7 * 9) from by decide]; exact hor
                clear hor
                go_wp2_with fail
                go_ret3
                exact ⟨by rw [HE.out]; rfl, rfl⟩
              · have t9 : ((j : Int) == 9) = false := beq_eq_false_iff_ne.2 (by omega)
                go_wp2_with fail
                go_ret3
                exact ⟨by rw [HE.out]; rfl, rfl⟩
        · have tx : (x / 128 == 0) = false := beq_eq_false_iff_ne.2 (by omega)
          have HX := Lib.hid hx
          have e9 : j ≠ 9 := by have := H9.out; omega
          have t9 : ((j : Int) == 9) = false := beq_eq_false_iff_ne.2 (by omega)
          have HNL := Lib.hid (show N < 2 ^ (7 * (j + 1)) by rw [← HN.out]; exact decA_lt HA.out (Nat.mod_lt _ (by omega)))
          have HE := Lib.hid (show decA (j + 1) N (l.drop (j + 1)) = R by rw [← HDR.out, decA_on (by have := H9.out; omega) hx, HN.out])
          clear hx
          go_wp2_with fail
          go_round
          case rel => exact ⟨j + 1, N, by omega, by omega, by go_num, rfl, HNL, HE⟩
          case measure => simp [intOf]; omega
    · have HE := Lib.hid (show R = none by rw [← HD.out, List.drop_of_length_le (by omega)]; rfl)
      go_wp2_with fail
      go_ret3
      exact ⟨by rw [HE.out]; rfl, rfl⟩
/-- The number with a sign. -/
def uz (u : Nat) : Int := if u % 2 = 1 then -((u / 2 : Nat) : Int) - 1 else ((u / 2 : Nat) : Int)
theorem uz_i64 {u : Nat} (h : u < 18446744073709551616) : In64 (uz u) := by
  unfold uz In64; split <;> omega
theorem ret_i64 {a b : Int} (h : a = b) : Ending.returned (.int .i64 a) = .returned (.int .i64 b) := by rw [h]
theorem xor_neg1 {h : Nat} (hh : h < 9223372036854775808) : bits BinOp.xor IntKind.i64 (-1) (h : Int) = -(h : Int) - 1 := by
  have h1 : (BitVec.ofInt 64 (-1)).toNat = 18446744073709551615 := by decide
  have h2 : (BitVec.ofInt 64 (h : Int)).toNat = h := by
    rw [BitVec.ofInt_natCast, BitVec.toNat_ofNat]; exact Nat.mod_eq_of_lt (by omega)
  show IntKind.i64.wrap ((BitVec.ofInt 64 (-1) ^^^ BitVec.ofInt 64 (h : Int)).toNat : Int) = _
  rw [BitVec.toNat_xor, h1, h2, xor_max h (by omega)]
  rw [show ((18446744073709551615 - h : Nat) : Int) = 18446744073709551615 - (h : Int) from Int.ofNat_sub (by omega), IntKind.wrap_i64]
  omega
set_option maxHeartbeats 1000000 in
theorem nunz_any (u : Nat) (w : World) (hu : u < 18446744073709551616) : Calls Try.prog 236 #[.int .u64 u] w fun e w' => e = .returned (.int .i64 (uz u)) ∧ w' = w := by
  by_cases h : u % 2 = 1
  · have HE := Lib.hid (show uz u = -((u / 2 : Nat) : Int) - 1 by unfold uz; rw [if_pos h])
    have t : (bits BinOp.and IntKind.u64 (u : Int) 1 == 1) = true := by
      rw [show (1 : Int) = ((1 : Nat) : Int) from rfl, bits_and_u64_nat _ _ hu (by omega), beq_iff_eq, Nat.and_one_is_mod]; omega
    clear h
    go_enter Try.func236, Try.ntmps236
    go_wp2_with fail
    go_ret
    exact ⟨ret_i64 (by rw [HE.out, ← xor_neg1 (show u / 2 < 9223372036854775808 by omega)]; rfl), rfl⟩
  · have HE := Lib.hid (show uz u = ((u / 2 : Nat) : Int) by unfold uz; rw [if_neg h])
    have t : (bits BinOp.and IntKind.u64 (u : Int) 1 == 1) = false := by
      rw [show (1 : Int) = ((1 : Nat) : Int) from rfl, bits_and_u64_nat _ _ hu (by omega), Nat.and_one_is_mod]; exact beq_eq_false_iff_ne.2 (by omega)
    clear h
    go_enter Try.func236, Try.ntmps236
    go_wp2_with fail
    go_ret
    exact ⟨ret_i64 (by rw [HE.out]; omega), rfl⟩
def intR (o : Option (Nat × Nat)) : Value := match o with | some (v, n) => .tuple #[.int .i64 (uz v), .int .i64 n, .int .i64 0] | none => .tuple #[.int .i64 0, .int .i64 0, .int .i64 6]
theorem decA_bound : ∀ (l : List Int) (i acc : Nat) (v n : Nat), Byts l → i ≤ 9 → acc < 2 ^ (7 * i) → decA i acc l = some (v, n) → v < 18446744073709551616 ∧ i < n ∧ n ≤ i + l.length ∧ n ≤ 10
  | [], _, _, _, _, _, _, _, h => by cases h
  | b :: r, i, acc, v, n, hB, hi, ha, h => by
    have hb := hB b (by simp)
    rw [decA] at h
    split at h
    · cases h
    · rename_i hs
      split at h
      · rename_i hlt
        have h9 : i = 9 → b.toNat ≤ 1 := fun e => by omega
        have := dec_fit hi ha (show b.toNat < 128 by omega) h9
        cases h
        simp only [List.length_cons]
        refine ⟨this, by omega, by omega, by omega⟩
      · rename_i hge
        have hi9 : i ≤ 8 := by omega
        have := decA_bound r (i + 1) _ v n (fun x hx => hB x (by simp [hx])) (by omega) (decA_lt ha (Nat.mod_lt _ (by omega))) h
        simp only [List.length_cons]
        omega
theorem decU_bound {l : List Int} {v n : Nat} (hB : Byts l) (h : decU l = some (v, n)) : v < 18446744073709551616 ∧ 0 < n ∧ n ≤ l.length ∧ n ≤ 10 := by
  have := decA_bound l 0 0 v n hB (by omega) (by simp) h
  omega
set_option maxHeartbeats 1000000 in
theorem nInt_any (S : Nat → Prop) (l : List Int) (v : Value) (w : World) (hl : l.length ≤ maxLen) (hb : Byts l) (h : Row S w 1 l.length v (bV l)) :
    Calls Try.prog 198 #[v] w fun e w' => e = .returned (intR (decU l)) ∧ w' = w := by
  obtain ⟨a, cap, rfl, hcap⟩ := h.shape
  have HR := Lib.hid h; clear h
  have HB := Lib.hid hb; clear hb
  go_enter Try.func198, Try.ntmps198
  go_wp2_with fail
  refine (nUint_any S l _ w hl HB.out HR.out).mono ?_
  obtain ⟨R, hR⟩ : ∃ R, decU l = R := ⟨_, rfl⟩
  rw [hR]
  have HRE := Lib.hid hR; clear hR
  rintro e w' ⟨rfl, rfl⟩
  cases R with
  | none =>
    unfold numR
    go_wp2_with fail
    refine (nunz_any 0 _ (by omega)).mono ?_
    rintro e w' ⟨rfl, rfl⟩
    go_wp2_with fail
    go_ret3
    exact ⟨by rw [HRE.out]; rfl, rfl⟩
  | some p =>
    obtain ⟨u, n⟩ := p
    have HU := Lib.hid (decU_bound HB.out HRE.out)
    unfold numR
    go_wp2_with fail
    refine (nunz_any u _ HU.out.1).mono ?_
    rintro e w' ⟨rfl, rfl⟩
    go_wp2_with fail
    go_ret3
    exact ⟨by rw [HRE.out]; rfl, rfl⟩
theorem bV_drop (l : List Int) (p : Nat) : (bV l).drop p = bV (l.drop p) := by unfold bV; rw [List.map_drop]
theorem slice_fromB (a : Option Addr) (n cap p : Nat) (hp : p ≤ n) (hc : n ≤ cap) (hnil : PlainA a cap) : ∃ a', PlainA a' (cap - p) ∧
    (∀ w, (Instr.slice 92 (.slice a n cap) (some (.int .i64 (p : Int))) none none).run Try.prog w = .ok (.slice a' (n - p) (cap - p)) w) ∧
    ∀ S w (l : List Int), l.length = n → Row S w 1 n (.slice a n cap) (bV l) → Row S w 1 (n - p) (.slice a' (n - p) (cap - p)) (bV (l.drop p)) := by
  rcases hnil with ⟨rfl, rfl⟩ | ⟨b, off, rfl⟩
  · obtain rfl : n = 0 := by omega
    obtain rfl : p = 0 := by omega
    exact ⟨none, Or.inl ⟨rfl, rfl⟩, fun w => by simp [go_sem, sliced], fun S w l _ h => by simpa using h⟩
  · by_cases e : cap = p
    · obtain rfl : n = p := by omega
      subst e
      refine ⟨some ⟨b, off, none⟩, Or.inr ⟨b, off, rfl⟩, fun w => ?_, fun S w l hl h => ?_⟩
      · simp [go_sem, sliced]
      · rw [List.drop_of_length_le (by omega), Nat.sub_self]
        exact Row.nil _ _ _ _ _
    · refine ⟨some ⟨b, off + p, none⟩, Or.inr ⟨b, _, rfl⟩, fun w => ?_, fun S w l hl h => ?_⟩
      · simp [go_sem, sliced]
        rw [if_pos (by omega), if_neg e]
      · have := h.drop hp
        rw [Nat.mul_one, bV_drop] at this
        exact this
theorem Byts.drop {l : List Int} (h : Byts l) (p : Nat) : Byts (l.drop p) := fun b hb => h b (List.mem_of_mem_drop hb)
/-- A reader in the block rb: what is left, and its error. -/
def Rd (w : World) (rb : Nat) (l : List Int) (e : Int) : Prop :=
  ∃ a cap, w.heap[rb]? = some (.cells #[.slice a l.length cap, .int .i64 e] 235 (0, 0)) ∧ Row (fun b => b < rb) w 1 l.length (.slice a l.length cap) (bV l) ∧ PlainA a cap ∧ Byts l ∧ l.length ≤ maxLen
theorem Rd.keep {w w' : World} {rb : Nat} {l : List Int} {e : Int} (h : Rd w rb l e) (hk : ∀ b, b ≤ rb → w'.heap[b]? = w.heap[b]?) : Rd w' rb l e := by
  obtain ⟨a, cap, hb, hr, hp, hy, hl⟩ := h
  refine ⟨a, cap, (hk rb (Nat.le_refl _)).trans hb, hr.mono (fun _ h => h) (fun b off u hb hu => ?_), hp, hy, hl⟩
  have hlt : b < rb := hb
  unfold World.cell? at hu ⊢
  rw [hk b (by omega)]
  exact hu
theorem Rd.lt {w : World} {rb : Nat} {l : List Int} {e : Int} (h : Rd w rb l e) : rb < w.heap.size := by
  obtain ⟨a, cap, hb, _⟩ := h; exact (Array.getElem?_eq_some_iff.1 hb).1
theorem Rd.more {w w' : World} {rb : Nat} {l : List Int} {e : Int} (h : Rd w rb l e) (hm : More w w') : Rd w' rb l e :=
  h.keep fun _b hb => hm.block (Nat.lt_of_le_of_lt hb h.lt)
theorem open_any (rb : Nat) (l : List Int) (e : Int) (w : World) (h : Rd w rb l e) :
    Calls Try.prog 155 #[.pointer (some ⟨rb, 0, none⟩)] w fun r w' => r = .returned (.bool (e == 0)) ∧ w' = w := by
  obtain ⟨a, cap, hb, _⟩ := h
  have c1 : w.cell? ⟨rb, 1, none⟩ = some (.int .i64 e) := by simp [World.cell?, hb]
  clear hb
  go_enter Try.func155, Try.ntmps155
  go_wp2_with fail
  go_ret
  exact ⟨rfl, rfl⟩
theorem rErr_any (rb : Nat) (l : List Int) (e : Int) (w : World) (h : Rd w rb l e) :
    Calls Try.prog 160 #[.pointer (some ⟨rb, 0, none⟩)] w fun r w' => r = .returned (.int .i64 e) ∧ w' = w := by
  obtain ⟨a, cap, hb, _⟩ := h
  have c1 : w.cell? ⟨rb, 1, none⟩ = some (.int .i64 e) := by simp [World.cell?, hb]
  clear hb
  go_enter Try.func160, Try.ntmps160
  go_wp2_with fail
  go_ret
  exact ⟨rfl, rfl⟩
theorem grown_cell' {w w' : World} {g b o : Nat} {u : Value} (hg : w.grownBy w' (some g)) (hb : b ≠ g) (hu : w.cell? ⟨b, o, none⟩ = some u) : w'.cell? ⟨b, o, none⟩ = some u := by
  have h := hg.block b (cell_lt hu) (fun e => hb (by cases e; rfl))
  unfold World.cell? at hu ⊢
  rw [h]; exact hu
theorem set_block2 {w : World} {rb : Nat} {x y : Value} {t : TypeId} (hb : w.heap[rb]? = some (.cells #[x, y] t (0, 0))) (u : Value) :
    (w.setCell ⟨rb, 0, none⟩ u).heap[rb]? = some (.cells #[u, y] t (0, 0)) ∧ (w.setCell ⟨rb, 1, none⟩ u).heap[rb]? = some (.cells #[x, u] t (0, 0)) := by
  constructor <;> simp [World.setCell, Array.getElem?_modify, hb]
theorem setCell_grown' (w : World) (b o : Nat) (u : Value) : w.grownBy (w.setCell ⟨b, o, none⟩ u) (some b) :=
  ⟨rfl, rfl, rfl, by simp [World.setCell], fun k _ hne => by
    have hk : k ≠ b := fun e => hne (by rw [e])
    rw [Below.heap_setCell _ _ _ _ hk]⟩
theorem grown_below {w w' : World} {rb b : Nat} (h : w.grownBy w' (some rb)) (hlt : b < w.heap.size) (hne : b ≠ rb) : w'.heap[b]? = w.heap[b]? :=
  h.block b hlt (fun e => hne (by cases e; rfl))
set_option maxHeartbeats 1000000 in
theorem take_err (rb n : Nat) (l : List Int) (e0 e : Int) (w : World) (he : e ≠ 0) (h : Rd w rb l e0) :
    Calls Try.prog 157 #[.pointer (some ⟨rb, 0, none⟩), .int .i64 n, .int .i64 e] w fun r w' => r = .returned (.bool false) ∧ w.grownBy w' (some rb) ∧ Rd w' rb l e := by
  obtain ⟨a, cap, hb, hr, hp, hy, hl⟩ := h
  have c1 : w.cell? ⟨rb, 1, none⟩ = some (.int .i64 e0) := by simp [World.cell?, hb]
  have f1 : w.frozen? ⟨rb, 1, none⟩ = false := thaw hb _
  have HRd := Lib.hid (show Rd (w.setCell ⟨rb, 1, none⟩ (.int .i64 e)) rb l e from ⟨a, cap, (set_block2 hb _).2, hr.mono (fun _ h => h) (fun b off u hb' hu => grown_cell' (setCell_grown' w rb 1 _) (by have h3 : b < rb := hb'; omega) hu), hp, hy, hl⟩)
  clear hb hr hp hy hl
  have te : (e != 0) = true := by simpa using he
  clear he
  go_enter Try.func157, Try.ntmps157
  go_wp2_with fail
  go_ret
  exact ⟨rfl, setCell_grown' w rb 1 _, HRd.out⟩
set_option maxHeartbeats 1000000 in
theorem take_ok (rb n : Nat) (l : List Int) (e0 : Int) (w : World) (hn : n ≤ l.length) (h : Rd w rb l e0) :
    Calls Try.prog 157 #[.pointer (some ⟨rb, 0, none⟩), .int .i64 n, .int .i64 0] w fun r w' => r = .returned (.bool true) ∧ w.grownBy w' (some rb) ∧ Rd w' rb (l.drop n) e0 := by
  obtain ⟨a, cap, hb, hr, hp, hy, hl⟩ := h
  obtain ⟨a0, cap0, hs0, hcap⟩ := hr.shape
  cases hs0
  obtain ⟨a', hp', hsl, hrow⟩ := slice_fromB a l.length cap n hn hcap hp
  have c0 : w.cell? ⟨rb, 0, none⟩ = some (.slice a l.length cap) := by simp [World.cell?, hb]
  have f0 : w.frozen? ⟨rb, 0, none⟩ = false := thaw hb _
  have HRd := Lib.hid (show Rd (w.setCell ⟨rb, 0, none⟩ (.slice a' (l.length - n) (cap - n))) rb (l.drop n) e0 from
    ⟨a', cap - n, by rw [List.length_drop]; exact (set_block2 hb _).1, by rw [List.length_drop]; exact (hrow _ w l rfl hr).mono (fun _ h => h) (fun b off u hb' hu => grown_cell' (setCell_grown' w rb 0 _) (by have h3 : b < rb := hb'; omega) hu), hp', hy.drop n, by rw [List.length_drop]; omega⟩)
  clear hb hr hp hy hl hrow hp'
  generalize l.length = m at *
  go_enter Try.func157, Try.ntmps157
  go_wp2_with fail
  go_ret
  exact ⟨rfl, setCell_grown' w rb 0 _, HRd.out⟩
theorem Rd.row {w : World} {rb : Nat} {l : List Int} {e : Int} (h : Rd w rb l e) : ∃ a cap, w.cell? ⟨rb, 0, none⟩ = some (.slice a l.length cap) ∧ Row (fun b => b < rb) w 1 l.length (.slice a l.length cap) (bV l) ∧ Byts l ∧ l.length ≤ maxLen := by
  obtain ⟨a, cap, hb, hr, hp, hy, hl⟩ := h
  exact ⟨a, cap, by simp [World.cell?, hb], hr, hy, hl⟩
set_option maxHeartbeats 1000000 in
theorem rdU_shut (rb : Nat) (l : List Int) (e : Int) (w : World) (he : e ≠ 0) (h : Rd w rb l e) :
    Calls Try.prog 107 #[.pointer (some ⟨rb, 0, none⟩), .int .u64 18446744073709551615] w fun r w' => r = .returned (.int .u64 0) ∧ w' = w := by
  have HD := Lib.hid h; clear h
  have te : (e == 0) = false := beq_eq_false_iff_ne.2 he
  clear he
  go_enter Try.func107, Try.ntmps107
  go_wp2_with fail
  refine (open_any rb l e w HD.out).mono ?_
  rw [te]
  rintro r w' ⟨rfl, rfl⟩
  go_wp2_with fail
  go_ret
  exact ⟨rfl, rfl⟩
set_option maxHeartbeats 1000000 in
theorem rdU_some (rb : Nat) (l : List Int) (w : World) (v n : Nat) (hd : decU l = some (v, n)) (h : Rd w rb l 0) :
    Calls Try.prog 107 #[.pointer (some ⟨rb, 0, none⟩), .int .u64 18446744073709551615] w fun r w' => r = .returned (.int .u64 v) ∧ w.grownBy w' (some rb) ∧ Rd w' rb (l.drop n) 0 := by
  obtain ⟨a, cap, c0, hr, hy, hl⟩ := h.row
  have HD := Lib.hid h; clear h
  have HR := Lib.hid hr; clear hr
  have HU := Lib.hid (decU_bound hy hd)
  have HY := Lib.hid hy; clear hy
  have HE := Lib.hid hd; clear hd
  have hv : (v : Int) ≤ 18446744073709551615 := by have := HU.out.1; omega
  go_enter Try.func107, Try.ntmps107
  go_wp2_with fail
  refine (open_any rb l 0 w HD.out).mono ?_
  rw [show ((0 : Int) == 0) = true from rfl]
  rintro r w' ⟨rfl, rfl⟩
  go_wp2_with fail
  refine (nUint_any _ l _ _ hl HY.out HR.out).mono ?_
  rw [HE.out, numR_some]
  rintro r w' ⟨rfl, rfl⟩
  go_wp2_with fail
  refine (take_ok rb n l 0 _ HU.out.2.2.1 HD.out).mono ?_
  rintro r w2 ⟨rfl, hg, hrd⟩
  have HG := Lib.hid hg; clear hg
  have HRD := Lib.hid hrd; clear hrd
  clear c0
  go_wp2_with fail
  go_ret
  exact ⟨rfl, HG.out, HRD.out⟩
set_option maxHeartbeats 1000000 in
theorem rdU_none (rb : Nat) (l : List Int) (w : World) (hd : decU l = none) (h : Rd w rb l 0) :
    Calls Try.prog 107 #[.pointer (some ⟨rb, 0, none⟩), .int .u64 18446744073709551615] w fun r w' => r = .returned (.int .u64 0) ∧ w.grownBy w' (some rb) ∧ Rd w' rb l 6 := by
  obtain ⟨a, cap, c0, hr, hy, hl⟩ := h.row
  have HD := Lib.hid h; clear h
  have HR := Lib.hid hr; clear hr
  have HY := Lib.hid hy; clear hy
  have HE := Lib.hid hd; clear hd
  go_enter Try.func107, Try.ntmps107
  go_wp2_with fail
  refine (open_any rb l 0 w HD.out).mono ?_
  rw [show ((0 : Int) == 0) = true from rfl]
  rintro r w' ⟨rfl, rfl⟩
  go_wp2_with fail
  refine (nUint_any _ l _ _ hl HY.out HR.out).mono ?_
  rw [HE.out, numR_none]
  rintro r w' ⟨rfl, rfl⟩
  go_wp2_with fail
  refine (take_err rb 0 l 0 6 _ (by decide) HD.out).mono ?_
  rintro r w2 ⟨rfl, hg, hrd⟩
  have HG := Lib.hid hg; clear hg
  have HRD := Lib.hid hrd; clear hrd
  clear c0
  go_wp2_with fail
  go_ret
  exact ⟨rfl, HG.out, HRD.out⟩
set_option maxHeartbeats 1000000 in
theorem rdI_shut (rb : Nat) (l : List Int) (e : Int) (w : World) (he : e ≠ 0) (h : Rd w rb l e) :
    Calls Try.prog 161 #[.pointer (some ⟨rb, 0, none⟩)] w fun r w' => r = .returned (.int .i64 0) ∧ w' = w := by
  have HD := Lib.hid h; clear h
  have te : (e == 0) = false := beq_eq_false_iff_ne.2 he
  clear he
  go_enter Try.func161, Try.ntmps161
  go_wp2_with fail
  refine (open_any rb l e w HD.out).mono ?_
  rw [te]
  rintro r w' ⟨rfl, rfl⟩
  go_wp2_with fail
  go_ret
  exact ⟨rfl, rfl⟩
set_option maxHeartbeats 1000000 in
theorem rdI_some (rb : Nat) (l : List Int) (w : World) (v n : Nat) (hd : decU l = some (v, n)) (h : Rd w rb l 0) :
    Calls Try.prog 161 #[.pointer (some ⟨rb, 0, none⟩)] w fun r w' => r = .returned (.int .i64 (uz v)) ∧ w.grownBy w' (some rb) ∧ Rd w' rb (l.drop n) 0 := by
  obtain ⟨a, cap, c0, hr, hy, hl⟩ := h.row
  have HD := Lib.hid h; clear h
  have HR := Lib.hid hr; clear hr
  have HU := Lib.hid (decU_bound hy hd)
  have HY := Lib.hid hy; clear hy
  have HE := Lib.hid hd; clear hd
  go_enter Try.func161, Try.ntmps161
  go_wp2_with fail
  refine (open_any rb l 0 w HD.out).mono ?_
  rw [show ((0 : Int) == 0) = true from rfl]
  rintro r w' ⟨rfl, rfl⟩
  go_wp2_with fail
  refine (nInt_any _ l _ _ hl HY.out HR.out).mono ?_
  rw [HE.out, show intR (some (v, n)) = .tuple #[.int .i64 (uz v), .int .i64 n, .int .i64 0] from rfl]
  rintro r w' ⟨rfl, rfl⟩
  go_wp2_with fail
  refine (take_ok rb n l 0 _ HU.out.2.2.1 HD.out).mono ?_
  rintro r w2 ⟨rfl, hg, hrd⟩
  have HG := Lib.hid hg; clear hg
  have HRD := Lib.hid hrd; clear hrd
  clear c0
  go_wp2_with fail
  go_ret
  exact ⟨rfl, HG.out, HRD.out⟩
set_option maxHeartbeats 1000000 in
theorem rdI_none (rb : Nat) (l : List Int) (w : World) (hd : decU l = none) (h : Rd w rb l 0) :
    Calls Try.prog 161 #[.pointer (some ⟨rb, 0, none⟩)] w fun r w' => r = .returned (.int .i64 0) ∧ w.grownBy w' (some rb) ∧ Rd w' rb l 6 := by
  obtain ⟨a, cap, c0, hr, hy, hl⟩ := h.row
  have HD := Lib.hid h; clear h
  have HR := Lib.hid hr; clear hr
  have HY := Lib.hid hy; clear hy
  have HE := Lib.hid hd; clear hd
  go_enter Try.func161, Try.ntmps161
  go_wp2_with fail
  refine (open_any rb l 0 w HD.out).mono ?_
  rw [show ((0 : Int) == 0) = true from rfl]
  rintro r w' ⟨rfl, rfl⟩
  go_wp2_with fail
  refine (nInt_any _ l _ _ hl HY.out HR.out).mono ?_
  rw [HE.out, show intR none = .tuple #[.int .i64 0, .int .i64 0, .int .i64 6] from rfl]
  rintro r w' ⟨rfl, rfl⟩
  go_wp2_with fail
  refine (take_err rb 0 l 0 6 _ (by decide) HD.out).mono ?_
  rintro r w2 ⟨rfl, hg, hrd⟩
  have HG := Lib.hid hg; clear hg
  have HRD := Lib.hid hrd; clear hrd
  clear c0
  go_wp2_with fail
  go_ret
  exact ⟨rfl, HG.out, HRD.out⟩
set_option maxHeartbeats 1000000 in
theorem newR_any (S : Nat → Prop) (l : List Int) (v : Value) (w : World) (hl : l.length ≤ 140737488355328) (hy : Byts l) (h : ByV S w l v) :
    Calls Try.prog 104 #[v] w fun r w' => ∃ rb, r = .returned (.pointer (some ⟨rb, 0, none⟩)) ∧ More w w' ∧ w.heap.size ≤ rb ∧ Rd w' rb l 0 := by
  obtain ⟨a, cap, rfl, hr, hp⟩ := h
  have HR := Lib.hid (show ByV S w l (.slice a l.length cap) from ⟨a, cap, rfl, hr, hp⟩)
  have HY := Lib.hid hy; clear hy hr
  obtain ⟨i0, hi0, hz0, hz1, hz2⟩ := info_parts infoB
  have HW1 := Lib.hid (show (w.alloc (.cells #[] 5)).ownsRow w.heap.size 5 1 (.slice (some ⟨w.heap.size, 0, none⟩) 0 0) 0 [] from ⟨rfl, Or.inr ⟨w.heap.size, 0, #[], rfl, Nat.le_refl _, alloc_last _ _, Nat.le_refl _, by unfold maxLen; omega, rfl, rfl⟩⟩)
  have hma : More w (w.alloc (.cells #[] 5)) := World.grownBy_alloc _ _ _
  have HMA := Lib.hid hma; clear hma
  have HM1 := Lib.hid (show 0 + l.length ≤ maxLen by unfold maxLen; omega)
  have HM2 := Lib.hid (show (0 + l.length) * 1 ≤ 140737488355328 by omega)
  have HLL := Lib.hid hl; clear hl
  have HF1 := Lib.hid (show (bV l).length = l.length * 1 by rw [bV_length]; omega)
  have HF2 := Lib.hid (bV_one l)
  have HBS := Lib.hid (show w.heap.size ≤ (w.alloc (.cells #[] 5)).heap.size by simp)
  cases a with
  | none =>
    obtain ⟨rfl, _, rfl⟩ := HR.out.none'
    go_enter Try.func104, Try.ntmps104
    go_wp2_with (at_builtin; refine wpList_append_own_none rfl _ _ _ rfl w.heap.size 5 i0 1 Try.underlying92 hi0 (.slice (some ⟨w.heap.size, 0, none⟩) 0 0) 0 [] rfl HW1.out rfl ?_)
    go_wp2_with fail
    go_ret
    refine ⟨w.heap.size + 1, rfl, ?_, by omega, some ⟨w.heap.size, 0, none⟩, 0, ?_, ?_, Or.inr ⟨_, _, rfl⟩, HY.out, by simp [maxLen]⟩
    · exact more_trans HMA.out (World.grownBy_alloc _ _ _)
    · exact alloc_at _ _ (by simp)
    · exact Row.nil _ _ _ _ _
  | some ad =>
    have HNEW := Lib.hid (show ∀ i u, (bV l)[i]? = some u → (w.alloc (.cells #[] 5)).cell? (ad.add i) = some u from (HR.out.below HMA.out.below).news)
    go_enter Try.func104, Try.ntmps104
    go_wp2_with (at_builtin; refine wpList_append_own _ rfl _ _ _ rfl w.heap.size 5 i0 _ 1 1 Try.underlying92 hi0 hz0 hz1 hz2 rfl (by omega) (.slice (some ⟨w.heap.size, 0, none⟩) 0 0) 0 [] rfl HW1.out ad l.length cap (bV l) rfl HF1.out HNEW.out HF2.out HM1.out HM2.out HBS.out ?_; intro v2 w3 hown2 hgrow2 hold2; rw [Nat.zero_add, List.nil_append] at hown2; obtain ⟨oa, ocap, rfl, hoo⟩ := owns_shape hown2; have HO2 := Lib.hid hown2; have HG2 := Lib.hid hgrow2; clear hown2 hgrow2 hold2 hoo)
    go_ret
    have hM3 : More w w3 := more_of (HMA.out.below.grown HG2.out HBS.out (fun y hy => by cases hy; exact Nat.le_refl _))
    have hA : More w3 (w3.alloc (.cells #[.slice oa l.length ocap, .int .i64 0] 235)) := World.grownBy_alloc _ _ _
    refine ⟨w3.heap.size, rfl, more_trans hM3 hA, hM3.size, oa, ocap, alloc_last _ _, ?_, plain_owns HO2.out, HY.out, by have := HLL.out; unfold maxLen; omega⟩
    exact (row_lt (by omega) (Row.of_owns HO2.out)).below hA.below
end Go.Proofs.Ytemeppfikpafbaa

