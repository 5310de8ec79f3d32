/- Bytes: num.put (153), PutUint (147), Zigzag (154), PutInt (103), certificate.putInt (102). -/
import Derived.Test.YtemeppfikpafbaaAppG
import Derived.Laws.Bits64
namespace Go.Proofs.Ytemeppfikpafbaa
open Go.RowKit
theorem infoB : (Try.prog.info? 5).map (fun i => (i.zero, i.size, i.bytes)) = some (some (.int .u8 0), 1, 1) := by kernel_rfl
def bV (O : List Int) : List Value := O.map fun k => .int .u8 k
theorem bV_push (O : List Int) (k : Int) : bV (O ++ [k]) = bV O ++ [.int .u8 k] := by simp [bV]
theorem bV_append (O P : List Int) : bV (O ++ P) = bV O ++ bV P := by simp [bV]
theorem bV_length (O : List Int) : (bV O).length = O.length := by simp [bV]
theorem bV_one (O : List Int) : ∀ u ∈ bV O, u.oneCell' = true := fun u hu => by
  obtain ⟨k, _, rfl⟩ := List.mem_map.1 hu; rfl
/-- The encoding of a number. -/
def encU (v : Nat) : List Int := if v < 128 then [(v : Int)] else ((v % 128 + 128 : Nat) : Int) :: encU (v / 128)
termination_by v
theorem encU_lt {v : Nat} (h : v < 128) : encU v = [(v : Int)] := by rw [encU, if_pos h]
theorem encU_ge {v : Nat} (h : ¬ v < 128) : encU v = ((v % 128 + 128 : Nat) : Int) :: encU (v / 128) := by rw [encU, if_neg h]
theorem encU_pos (v : Nat) : 1 ≤ (encU v).length := by
  rw [encU]; split <;> simp
theorem encU_len' (k v : Nat) (h : v < 128 ^ (k + 1)) : (encU v).length ≤ k + 1 := by
  induction k generalizing v with
  | zero => rw [encU_lt (by simpa using h)]; simp
  | succ k ih =>
    by_cases hv : v < 128
    · rw [encU_lt hv]; simp
    · rw [encU_ge hv, List.length_cons]
      have := ih (v / 128) (by rw [Nat.div_lt_iff_lt_mul (by omega)]; rw [Nat.pow_succ] at h; exact h)
      omega
theorem encU_len (v : Nat) (h : v < 18446744073709551616) : (encU v).length ≤ 10 := encU_len' 9 v (by omega)
theorem bits_or_all : ∀ x : Fin 256, bits BinOp.or IntKind.u8 ((x.val : Nat) : Int) 128 = ((x.val % 128 + 128 : Nat) : Int) := by decide +kernel
theorem bits_or128 (m : Nat) : bits BinOp.or IntKind.u8 ((m : Int) % 256) 128 = ((m % 128 + 128 : Nat) : Int) := by
  have h := bits_or_all ⟨m % 256, by omega⟩
  rw [show ((m % 256 : Nat) : Int) = (m : Int) % 256 by omega] at h
  rw [h, show m % 256 % 128 = m % 128 by omega]
theorem byt_app {B : Nat} {w wr w2 : World} {O : List Int} {k : Int} {oa : Option Addr} {ocap g cap : Nat} {ob : Obj} (hb : Below B w wr) (hB : B ≤ w.heap.size) (hO : wr.ownsRow B 5 1 (.slice oa O.length ocap) O.length (bV O))
    (hgrow : (wr.alloc ob).grownBy w2 (Value.slice oa O.length ocap).ownBlock) (hown : w2.ownsRow B 5 1 (.slice (some ⟨g, 0, none⟩) (O.length + 1) cap) (O.length + 1) (bV O ++ [.int .u8 k])) :
    Below B w w2 ∧ w2.ownsRow B 5 1 (.slice (some ⟨g, 0, none⟩) (O.length + 1) cap) (O ++ [k]).length (bV (O ++ [k])) := by
  obtain ⟨_, _, _, hoo⟩ := owns_shape hO
  have hs : B ≤ wr.heap.size := Nat.le_trans hB hb.size
  refine ⟨(hb.alloc hs ob).grown hgrow (by rw [World.size_alloc]; exact Nat.le_succ_of_le hs) (fun y hy => (hoo y hy).1), ?_⟩
  rw [bV_push, List.length_append]; exact hown

set_option maxRecDepth 100000 in
set_option maxHeartbeats 400000 in
theorem nput153_any (l : List Int) (v : Value) (u B : Nat) (w : World) (hu : u < 18446744073709551616) (hl : l.length < 4294960000) (hB : B ≤ w.heap.size) (h : w.ownsRow B 5 1 v l.length (bV l)) :
    Calls Try.prog 153 #[v, .int .u64 u] w fun e w' => Below B w w' ∧ ∃ v', e = .returned v' ∧ w'.ownsRow B 5 1 v' (l ++ encU u).length (bV (l ++ encU u)) := by
  obtain ⟨i0, hi0, hz0, hz1, hz2⟩ := info_parts infoB
  have HO := Lib.hid h; clear h
  go_enter Try.func153, Try.ntmps153
  go_wp2_with fail
  go_loopw [0, 1] (fun p n wr => ∃ (m : Nat) (O : List Int), n = .int .u64 m ∧ m ≤ u ∧ Hid (O ++ encU m = l ++ encU u) ∧ Hid (Below B w wr) ∧ Hid (wr.ownsRow B 5 1 p O.length (bV O))) (fun _ n _ => (intOf n).toNat)
  case atStart => exact ⟨u, l, rfl, Nat.le_refl _, Lib.hid rfl, Lib.hid (Below.refl _ _), HO⟩
  case round =>
    obtain ⟨m, O, rfl, hmu, HE, HB, HOW⟩ := hrel
    obtain ⟨oa, ocap, rfl, hoo⟩ := owns_shape HOW.out
    have hbs : B ≤ wr.heap.size := Nat.le_trans hB HB.out.size
    have hOl : O.length + 1 ≤ l.length + 12 := by
      have h1 := congrArg List.length HE.out
      rw [List.length_append, List.length_append] at h1
      have h2 := encU_len u hu
      have h3 := encU_pos m
      omega
    have hm1 : O.length + 1 ≤ maxLen := by unfold maxLen; omega
    have hm2 : (O.length + 1) * 1 ≤ 140737488355328 := by omega
    by_cases hm : m < 128
    · have t1 : decide (128 ≤ (m : Int)) = false := by simp; omega
      have HD := Lib.hid (show O ++ [(m : Int)] = l ++ encU u by rw [← HE.out, encU_lt hm])
      go_wp2_with (at_builtin; refine wpList_append_lies _ rfl _ _ _ rfl B 5 i0 _ 1 1 Try.underlying92 hi0 hz0 hz1 hz2 rfl (by omega) (.slice oa O.length ocap) O.length (bV O) rfl (HOW.out.alloc _) ⟨wr.heap.size, 0, none⟩ 1 1 [.int .u8 m] rfl rfl (World.news_of_block (cs := #[.int .u8 m]) (t := 5) (fr := (0, 0)) (heap_alloc_new _ _)) (by simp [Value.oneCell']) (by omega) hm1 hm2 (Nat.le_trans hbs (by rw [World.size_alloc]; exact Nat.le_succ _)) _ rfl ?_; intro gg2 cap2 w2 hown2 hgrow2 hat2 hlt2)
      obtain ⟨hb3, ho3⟩ := byt_app HB.out hB HOW.out hgrow2 hown2
      have HB3 := Lib.hid hb3
      have HO3 := Lib.hid ho3
      clear hown2 hgrow2 hat2 hlt2 hb3 ho3
      go_wp2_with fail
      go_ret
      exact ⟨HB3.out, _, rfl, by rw [← HD.out]; exact HO3.out⟩
    · have t1 : decide (128 ≤ (m : Int)) = true := by simp; omega
      have HD := Lib.hid (show (O ++ [bits BinOp.or IntKind.u8 ((m : Int) % 256) 128]) ++ encU (m / 128) = l ++ encU u by rw [← HE.out, encU_ge hm, bits_or128]; simp)
      go_wp2_with (at_builtin; refine wpList_append_lies _ rfl _ _ _ rfl B 5 i0 _ 1 1 Try.underlying92 hi0 hz0 hz1 hz2 rfl (by omega) (.slice oa O.length ocap) O.length (bV O) rfl (HOW.out.alloc _) ⟨wr.heap.size, 0, none⟩ 1 1 [.int .u8 (bits BinOp.or IntKind.u8 ((m : Int) % 256) 128)] rfl rfl (World.news_of_block (cs := #[.int .u8 (bits BinOp.or IntKind.u8 ((m : Int) % 256) 128)]) (t := 5) (fr := (0, 0)) (heap_alloc_new _ _)) (by simp [Value.oneCell']) (by omega) hm1 hm2 (Nat.le_trans hbs (by rw [World.size_alloc]; exact Nat.le_succ _)) _ rfl ?_; intro gg2 cap2 w2 hown2 hgrow2 hat2 hlt2)
      obtain ⟨hb3, ho3⟩ := byt_app HB.out hB HOW.out hgrow2 hown2
      have HB3 := Lib.hid hb3
      have HO3 := Lib.hid ho3
      clear hown2 hgrow2 hat2 hlt2 hb3 ho3
      go_wp2_with fail
      go_roundw
      case rel => exact ⟨m / 128, O ++ [bits BinOp.or IntKind.u8 ((m : Int) % 256) 128], by go_num, by omega, HD, HB3, HO3⟩
      case measure => simp [intOf]; omega
theorem run_make92 (n : Nat) (hn : n < 4294967296) (w : World) :
    (Instr.makeSlice 92 (.int .i64 0) (.int .i64 (n : Int))).run Try.prog w = .ok (.slice (some ⟨w.heap.size, 0, none⟩) 0 n) (w.alloc (.cells (madeCells #[.int .u8 0] n) 5)) := by
  obtain ⟨i, hi, hzz⟩ := Option.map_eq_some_iff.1 infoB
  simp only [Prod.mk.injEq] at hzz
  obtain ⟨hz, hs, hb⟩ := hzz
  have hr := run_make (P := Try.prog) w 92 5 i _ Try.underlying92 hi hz .i64 .i64 0 n (by omega) (by omega) (by rw [hb]; omega) (by omega)
  simpa [Int.toNat_natCast, hs, Value.cells] using hr
/-- Bytes in memory, nil or not. -/
structure ByG (w : World) (l : List Int) (v : Value) : Prop where
  row : Row anyB w 1 l.length v (bV l)
  nil : NilA v
theorem ByG.more {w w' : World} {l : List Int} {v : Value} (h : ByG w l v) (hm : More w w') : ByG w' l v := ⟨h.row.below hm.below, h.nil⟩
theorem ByG.of_owns {w : World} {B : Nat} {l : List Int} {v : Value} (h : w.ownsRow B 5 1 v l.length (bV l)) : ByG w l v := ⟨(Row.of_owns h).mono (fun _ _ => trivial) (fun _ _ _ _ h => h), owns_nil h⟩
set_option maxRecDepth 100000 in
set_option maxHeartbeats 1000000 in
theorem put147_any (l : List Int) (v : Value) (u : Nat) (w : World) (hu : u < 18446744073709551616) (hl : l.length < 4294900000) (h : ByG w l v) :
    Calls Try.prog 147 #[v, .int .u64 u] w fun e w' => (∃ v', e = .returned v' ∧ w'.ownsRow w.heap.size 5 1 v' (l ++ encU u).length (bV (l ++ encU u))) ∧ Below w.heap.size w w' := by
  obtain ⟨i0, hi0, hz0, hz1, hz2⟩ := info_parts infoB
  obtain ⟨a, cap, rfl, _⟩ := h.row.shape
  obtain ⟨N, hN⟩ : ∃ N, N = l.length + 10 := ⟨_, rfl⟩
  have HN := Lib.hid hN
  have hmk := run_make92 N (by omega) w
  rw [show ((N : Nat) : Int) = (l.length : Int) + 10 by omega] at hmk
  have HOWN := Lib.hid (World.ownsRow_made (base := w.heap.size) (e := 5) (size := 1) w (madeCells #[.int .u8 0] N) N (Nat.le_refl _) (by unfold maxLen; omega) (by simp [madeCells]))
  have HM0 := Lib.hid (more_alloc w (.cells (madeCells #[.int .u8 0] N) 5))
  have HR := Lib.hid (h.row.below HM0.out.below)
  have HNI := Lib.hid h.nil
  clear h hN
  generalize hR : l ++ encU u = R
  have HRR := Lib.hid hR; clear hR
  obtain ⟨ln, HLN⟩ : ∃ ln, Hid (l.length = ln) := ⟨_, Lib.hid rfl⟩
  rw [HLN.out] at HR hl hmk HNI ⊢
  have hm1 : 0 + ln ≤ maxLen := by unfold maxLen; omega
  have hm2 : (0 + ln) * 1 ≤ 140737488355328 := by omega
  have HW := Lib.hid (And.intro hm1 hm2)
  clear hm1 hm2
  have hw10 : IntKind.i64.wrap ((ln : Int) + 10) = (ln : Int) + 10 := by rw [IntKind.wrap_i64]; omega
  go_enter Try.func147, Try.ntmps147
  go_upto_region 2 with (fail)
  have HS0 := Lib.hid (show w.heap.size ≤ (w.alloc (.cells (madeCells #[.int .u8 0] N) 5)).heap.size from HM0.out.size)
  generalize w.alloc (.cells (madeCells #[.int .u8 0] N) 5) = w1 at *
  go_wp2_with (at_builtin; refine wpList_append_rowC rfl _ _ 92 rfl w.heap.size 5 i0 _ 1 1 Try.underlying92 hi0 hz0 hz1 hz2 rfl (by omega) (.slice (some ⟨w.heap.size, 0, none⟩) 0 N) 0 [] (by first | rfl | (rw [HN.out, HLN.out]; rfl)) HOWN.out (.slice a ln cap) ln (bV l) rfl HR.out HNI.out (bV_one l) HW.out.1 HW.out.2 HS0.out ?_; intro v2 w2 hown hgrow; rw [Nat.zero_add, List.nil_append] at hown; obtain ⟨ga, gc, rfl, _⟩ := owns_shape hown)
  have HB2 := Lib.hid (show Below w.heap.size w w2 from HM0.out.below.grown hgrow HS0.out (fun z hz => (HOWN.out.lt z hz).1))
  have HO2 := Lib.hid (show w2.ownsRow w.heap.size 5 1 (.slice ga l.length gc) l.length (bV l) by rw [HLN.out]; exact hown)
  clear hown hgrow hmk
  have HP := Lib.hid (nput153_any l _ u w.heap.size w2 hu (by rw [HLN.out]; omega) HB2.out.size HO2.out)
  rw [HLN.out] at HP
  refine HP.out.mono ?_
  rw [HRR.out]
  rintro e w' ⟨hb, v', rfl, ho⟩
  have HB := Lib.hid (HB2.out.trans hb)
  have HO := Lib.hid ho
  clear hb ho
  obtain ⟨va, vc, rfl, _⟩ := owns_shape HO.out
  go_wp2_with fail
  go_ret
  exact ⟨⟨_, rfl, HO.out⟩, HB.out⟩
/-- 2 x, or -2 x - 1. -/
def zz (x : Int) : Nat := if x < 0 then (-2 * x - 1).toNat else (2 * x).toNat
theorem zz_lt {x : Int} (h1 : -9223372036854775808 ≤ x) (h2 : x ≤ 9223372036854775807) : zz x < 18446744073709551616 := by
  unfold zz; split <;> omega
theorem xor_max (y : Nat) (h : y < 18446744073709551616) : 18446744073709551615 ^^^ y = 18446744073709551615 - y := by
  have := BitVec.toNat_not (x := BitVec.ofNat 64 y)
  rw [BitVec.not_def, BitVec.toNat_xor, BitVec.toNat_allOnes, BitVec.toNat_ofNat, Nat.mod_eq_of_lt h] at this
  exact this
theorem zz_neg {x : Int} (h1 : -9223372036854775808 ≤ x) (hx : x < 0) : bits BinOp.xor IntKind.u64 IntKind.u64.max (IntKind.u64.wrap (IntKind.u64.wrap x * 2)) = (zz x : Int) := by
  have hz : zz x = (-2 * x - 1).toNat := by unfold zz; rw [if_pos hx]
  obtain ⟨y, hy⟩ : ∃ y : Nat, (y : Int) = 18446744073709551616 + 2 * x := ⟨(18446744073709551616 + 2 * x).toNat, by omega⟩
  have e1 : IntKind.u64.wrap (IntKind.u64.wrap x * 2) = (y : Int) := by rw [IntKind.wrap_u64, IntKind.wrap_u64]; omega
  have e2 : IntKind.u64.max = ((18446744073709551615 : Nat) : Int) := by decide
  rw [e1, e2, bits_xor_u64_nat _ _ (by omega) (by omega), xor_max y (by omega)]
  omega
theorem zz_pos {x : Int} (h2 : x ≤ 9223372036854775807) (hx : ¬ x < 0) : IntKind.u64.wrap (IntKind.u64.wrap x * 2) = (zz x : Int) := by
  have hz : zz x = (2 * x).toNat := by unfold zz; rw [if_neg hx]
  rw [IntKind.wrap_u64, IntKind.wrap_u64]; omega
set_option maxHeartbeats 400000 in
theorem zigzag154_any (x : Int) (w : World) (h1 : -9223372036854775808 ≤ x) (h2 : x ≤ 9223372036854775807) : Calls Try.prog 154 #[.int .i64 x] w fun e w' => e = .returned (.int .u64 (zz x)) ∧ w = w' := by
  by_cases hx : x < 0
  · have t1 : decide (x < 0) = true := by simp [hx]
    have HZ := Lib.hid (zz_neg h1 hx)
    clear h1 h2
    go_enter Try.func154, Try.ntmps154
    go_wp2_with fail
    go_ret
    exact ⟨by rw [← HZ.out]; rfl, rfl⟩
  · have t1 : decide (x < 0) = false := by simpa using hx
    have HZ := Lib.hid (zz_pos h2 hx)
    clear h1 h2 hx
    go_enter Try.func154, Try.ntmps154
    go_wp2_with fail
    go_ret
    exact ⟨by rw [← HZ.out]; rfl, rfl⟩

set_option maxRecDepth 100000 in
set_option maxHeartbeats 400000 in
theorem putInt103_any (l : List Int) (v : Value) (x : Int) (w : World) (h1 : -9223372036854775808 ≤ x) (h2 : x ≤ 9223372036854775807) (hl : l.length < 4294900000) (h : ByG w l v) :
    Calls Try.prog 103 #[v, .int .i64 x] w fun e w' => (∃ v', e = .returned v' ∧ w'.ownsRow w.heap.size 5 1 v' (l ++ encU (zz x)).length (bV (l ++ encU (zz x)))) ∧ Below w.heap.size w w' := by
  obtain ⟨a, cap, rfl, _⟩ := h.row.shape
  have HV := Lib.hid (put147_any l _ (zz x) w (zz_lt h1 h2) hl h)
  clear h
  generalize hR : l ++ encU (zz x) = R at *
  clear hR
  go_enter Try.func103, Try.ntmps103
  go_wp2_with fail
  refine (zigzag154_any x w h1 h2).mono ?_
  rintro e w' ⟨rfl, rfl⟩
  go_wp2_with fail
  refine HV.out.mono ?_
  rintro e w' ⟨⟨v', rfl, ho⟩, hb⟩
  have HB := Lib.hid hb
  have HO := Lib.hid ho
  clear hb ho
  obtain ⟨va, vc, rfl, _⟩ := owns_shape HO.out
  go_wp2_with fail
  go_ret
  exact ⟨⟨_, rfl, HO.out⟩, HB.out⟩
set_option maxRecDepth 100000 in
set_option maxHeartbeats 400000 in
theorem putInt102_any (l : List Int) (v : Value) (x : Nat) (w : World) (h2 : (x : Int) ≤ 9223372036854775807) (hl : l.length < 4294900000) (h : ByG w l v) :
    Calls Try.prog 102 #[v, .int .i64 x] w fun e w' => (∃ v', e = .returned v' ∧ w'.ownsRow w.heap.size 5 1 v' (l ++ encU x).length (bV (l ++ encU x))) ∧ Below w.heap.size w w' := by
  obtain ⟨a, cap, rfl, _⟩ := h.row.shape
  have HV := Lib.hid (put147_any l _ x w (by omega) hl h)
  clear h
  generalize hR : l ++ encU x = R at *
  clear hR
  have hw : IntKind.u64.wrap (x : Int) = x := by rw [IntKind.wrap_u64]; omega
  go_enter Try.func102, Try.ntmps102
  go_wp2_with fail
  refine HV.out.mono ?_
  rintro e w' ⟨⟨v', rfl, ho⟩, hb⟩
  have HB := Lib.hid hb
  have HO := Lib.hid ho
  clear hb ho
  obtain ⟨va, vc, rfl, _⟩ := owns_shape HO.out
  go_wp2_with fail
  go_ret
  exact ⟨⟨_, rfl, HO.out⟩, HB.out⟩
end Go.Proofs.Ytemeppfikpafbaa
