/- PutUint (84), Zigzag (123), PutInt (85). -/
import Derived.Test.YtekhoanjpnjaeaaConcB
import Derived.Laws.Bits64
namespace Go.Proofs.Ytekhoanjpnjaeaa
open Go.RowKit

theorem run_make5 (n : Nat) (hn : n < 4294967296) (w : World) :
    (Instr.makeSlice 80 (.int .i64 0) (.int .i64 (n : Int))).run Try.prog w = .ok (.slice (some ⟨w.heap.size, 0, none⟩) 0 n) (w.alloc (.cells (madeCells #[.int .u8 0] n) 5)) := by
  obtain ⟨i, hi, hzz⟩ := Option.map_eq_some_iff.1 Try.info5
  simp only [Prod.mk.injEq] at hzz
  obtain ⟨hz, hs, hb⟩ := hzz
  have hr := run_make (P := Try.prog) w 80 5 i _ Try.underlying80 hi hz .i64 .i64 0 n (by omega) (by omega) (by rw [hb]; omega) (by omega)
  simpa [Int.toNat_natCast, hs, Value.cells] using hr

set_option maxRecDepth 100000 in
set_option maxHeartbeats 400000 in
theorem putUint_any (S : Nat → Prop) (l : List Int) (v : Value) (u : Nat) (w : World) (hu : u < 18446744073709551616) (hl : l.length < 4294900000) (h : ByV S w l v) :
    Calls Try.prog 84 #[v, .int .u64 u] w fun e w' => Below w.heap.size w w' ∧ ∃ v', e = .returned v' ∧ w'.ownsRow w.heap.size 5 1 v' (l ++ encU u).length (bV (l ++ encU u)) := by
  obtain ⟨i0, hi0, hz0, hz1, hz2⟩ := info_parts Try.info5
  have hv := h
  obtain ⟨a, cap, rfl, hr, hp⟩ := hv
  clear hr hp
  have HV := Lib.hid h; clear h
  have hnn : l.length + 10 < 4294967296 := by omega
  obtain ⟨N, hN⟩ : ∃ N, N = l.length + 10 := ⟨_, rfl⟩
  have HN := Lib.hid hN
  have hmk := run_make5 N (by omega) w
  rw [show ((N : Nat) : Int) = (l.length : Int) + 10 by omega] at hmk
  have HOWN := Lib.hid (World.ownsRow_made (base := w.heap.size) (e := 5) (size := 1) w (madeCells #[.int .u8 0] N) N (Nat.le_refl _) (by unfold maxLen; omega) (by simp [madeCells]))
  have HB0 := Lib.hid ((Below.refl w.heap.size w).alloc (Nat.le_refl _) (.cells (madeCells #[.int .u8 0] N) 5))
  have hbs : w.heap.size ≤ (w.alloc (.cells (madeCells #[.int .u8 0] N) 5)).heap.size := by simp
  clear hN
  generalize hR : l ++ encU u = R
  have HR := Lib.hid hR; clear hR
  cases a with
  | none =>
    obtain ⟨rfl, h0, rfl⟩ := HV.out.none'
    clear h0
    rw [show (([] : List Int).length : Int) + 10 = 10 from rfl] at hmk
    go_enter Try.func84, Try.ntmps84
    go_wp2_with (at_builtin; refine wpList_append_own_none rfl _ _ _ rfl w.heap.size 5 i0 1 Try.underlying80 hi0 _ 0 [] rfl HOWN.out rfl ?_)
    refine (nput_any [] _ u w.heap.size _ hu (by simp) hbs HOWN.out).mono ?_
    rintro e w' ⟨hb, v', rfl, ho⟩
    rw [HR.out] at ho
    have HB := Lib.hid (HB0.out.trans hb)
    have HO := Lib.hid ho
    clear hb ho
    obtain ⟨va, vc, rfl, _⟩ := owns_shape HO.out
    clear hmk
    go_wp2_with fail
    go_ret
    exact ⟨HB.out, _, rfl, HO.out⟩
  | some ad =>
    have hm1 : 0 + l.length ≤ maxLen := by unfold maxLen; omega
    have hm2 : (0 + l.length) * 1 ≤ 140737488355328 := by omega
    have HNW := Lib.hid (HV.out.below (w' := w.alloc (.cells (madeCells #[.int .u8 0] N) 5)) HB0.out).news
    have HL := Lib.hid (bV_length1 l)
    have HL1 := Lib.hid (bV_one l)
    go_enter Try.func84, Try.ntmps84
    go_wp2_with (at_builtin; refine wpList_append_own _ rfl _ _ _ rfl w.heap.size 5 i0 _ 1 1 Try.underlying80 hi0 hz0 hz1 hz2 rfl (by omega) _ 0 [] rfl HOWN.out ad l.length cap (bV l) rfl HL.out HNW.out HL1.out hm1 hm2 hbs ?_; intro v2 w2 hown2 hgrow2 _)
    have HO2 := Lib.hid (show w2.ownsRow w.heap.size 5 1 v2 l.length (bV l) by have := hown2; rwa [Nat.zero_add, List.nil_append] at this)
    have HB2 := Lib.hid (HB0.out.grown hgrow2 hbs (fun y hy => (HOWN.out.lt y hy).1))
    obtain ⟨va, vc, rfl, _⟩ := owns_shape HO2.out
    clear hown2 hgrow2 hmk
    go_wp2_with fail
    refine (nput_any l _ u w.heap.size w2 hu (by omega) HB2.out.size HO2.out).mono ?_
    rintro e w' ⟨hb, v', rfl, ho⟩
    rw [HR.out] at ho
    have HB := Lib.hid (HB2.out.trans hb)
    have HO := Lib.hid ho
    clear hb ho
    obtain ⟨va, vc, rfl, _⟩ := owns_shape HO.out
    go_wp2_with fail
    go_ret
    exact ⟨HB.out, _, rfl, HO.out⟩

/-- 2 x, or -2 x - 1. -/
def zz (x : Int) : Nat := if x < 0 then (-2 * x - 1).toNat else (2 * x).toNat
theorem zz_lt {x : Int} (h1 : -9223372036854775808 ≤ x) (h2 : x ≤ 9223372036854775807) : zz x < 18446744073709551616 := by
  unfold zz; split <;> omega
theorem xor_max (y : Nat) (h : y < 18446744073709551616) : 18446744073709551615 ^^^ y = 18446744073709551615 - y := by
  have := BitVec.toNat_not (x := BitVec.ofNat 64 y)
  rw [BitVec.not_def, BitVec.toNat_xor, BitVec.toNat_allOnes, BitVec.toNat_ofNat, Nat.mod_eq_of_lt h] at this
  exact this
theorem zz_neg {x : Int} (h1 : -9223372036854775808 ≤ x) (hx : x < 0) : bits BinOp.xor IntKind.u64 IntKind.u64.max (IntKind.u64.wrap (IntKind.u64.wrap x * 2)) = (zz x : Int) := by
  have hz : zz x = (-2 * x - 1).toNat := by unfold zz; rw [if_pos hx]
  obtain ⟨y, hy⟩ : ∃ y : Nat, (y : Int) = 18446744073709551616 + 2 * x := ⟨(18446744073709551616 + 2 * x).toNat, by omega⟩
  have e1 : IntKind.u64.wrap (IntKind.u64.wrap x * 2) = (y : Int) := by rw [IntKind.wrap_u64, IntKind.wrap_u64]; omega
  have e2 : IntKind.u64.max = ((18446744073709551615 : Nat) : Int) := by decide
  rw [e1, e2, bits_xor_u64_nat _ _ (by omega) (by omega), xor_max y (by omega)]
  omega
theorem zz_pos {x : Int} (h2 : x ≤ 9223372036854775807) (hx : ¬ x < 0) : IntKind.u64.wrap (IntKind.u64.wrap x * 2) = (zz x : Int) := by
  have hz : zz x = (2 * x).toNat := by unfold zz; rw [if_neg hx]
  rw [IntKind.wrap_u64, IntKind.wrap_u64]; omega
set_option maxHeartbeats 400000 in
theorem zigzag_any (x : Int) (w : World) (h1 : -9223372036854775808 ≤ x) (h2 : x ≤ 9223372036854775807) : Calls Try.prog 123 #[.int .i64 x] w fun e w' => e = .returned (.int .u64 (zz x)) ∧ w = w' := by
  by_cases hx : x < 0
  · have t1 : decide (x < 0) = true := by simp [hx]
    have HZ := Lib.hid (zz_neg h1 hx)
    clear h1 h2
    go_enter Try.func123, Try.ntmps123
    go_wp2_with fail
    go_ret
    exact ⟨by rw [← HZ.out]; rfl, rfl⟩
  · have t1 : decide (x < 0) = false := by simpa using hx
    have HZ := Lib.hid (zz_pos h2 hx)
    clear h1 h2 hx
    go_enter Try.func123, Try.ntmps123
    go_wp2_with fail
    go_ret
    exact ⟨by rw [← HZ.out]; rfl, rfl⟩

set_option maxRecDepth 100000 in
set_option maxHeartbeats 400000 in
theorem putInt_any (S : Nat → Prop) (l : List Int) (v : Value) (x : Int) (w : World) (h1 : -9223372036854775808 ≤ x) (h2 : x ≤ 9223372036854775807) (hl : l.length < 4294900000) (h : ByV S w l v) :
    Calls Try.prog 85 #[v, .int .i64 x] w fun e w' => Below w.heap.size w w' ∧ ∃ v', e = .returned v' ∧ w'.ownsRow w.heap.size 5 1 v' (l ++ encU (zz x)).length (bV (l ++ encU (zz x))) := by
  have hv := h
  obtain ⟨a, cap, rfl, hr, hp⟩ := hv
  clear hr hp
  have HV := Lib.hid h; clear h
  have hz := zz_lt h1 h2
  generalize hR : l ++ encU (zz x) = R
  have HR := Lib.hid hR; clear hR
  go_enter Try.func85, Try.ntmps85
  go_wp2_with fail
  refine (zigzag_any x w h1 h2).mono ?_
  rintro e w' ⟨rfl, rfl⟩
  go_wp2_with fail
  refine (putUint_any S l _ (zz x) w hz hl HV.out).mono ?_
  rw [HR.out]
  rintro e w' ⟨hb, v', rfl, ho⟩
  have HB := Lib.hid hb
  have HO := Lib.hid ho
  clear hb ho
  obtain ⟨va, vc, rfl, _⟩ := owns_shape HO.out
  go_wp2_with fail
  go_ret
  exact ⟨HB.out, _, rfl, HO.out⟩
end Go.Proofs.Ytekhoanjpnjaeaa
