/- Texts PutG, BytG, laid together. -/
import Derived.Laws.Bits64
import Derived.Test.YtemeppfikpafbaaRi
import Derived.Test.YtemeppfikpafbaaRn
/- Bytes: num.put (153), PutUint (147), Zigzag (154), PutInt (103), certificate.putInt (102). -/
namespace Go.Proofs.Ytemeppfikpafbaa
open Go.RowKit
theorem infoB : (Try.prog.info? 5).map (fun i => (i.zero, i.size, i.bytes)) = some (some (.int .u8 0), 1, 1) := by kernel_rfl
def bV (O : List Int) : List Value := O.map fun k => .int .u8 k
theorem bV_push (O : List Int) (k : Int) : bV (O ++ [k]) = bV O ++ [.int .u8 k] := by simp [bV]
theorem bV_append (O P : List Int) : bV (O ++ P) = bV O ++ bV P := by simp [bV]
theorem bV_length (O : List Int) : (bV O).length = O.length := by simp [bV]
theorem bV_one (O : List Int) : ∀ u ∈ bV O, u.oneCell' = true := fun u hu => by
  obtain ⟨k, _, rfl⟩ := List.mem_map.1 hu; rfl
/-- The encoding of a number. -/
def encU (v : Nat) : List Int := if v < 128 then [(v : Int)] else ((v % 128 + 128 : Nat) : Int) :: encU (v / 128)
termination_by v
theorem encU_lt {v : Nat} (h : v < 128) : encU v = [(v : Int)] := by rw [encU, if_pos h]
theorem encU_ge {v : Nat} (h : ¬ v < 128) : encU v = ((v % 128 + 128 : Nat) : Int) :: encU (v / 128) := by rw [encU, if_neg h]
theorem encU_pos (v : Nat) : 1 ≤ (encU v).length := by
  rw [encU]; split <;> simp
theorem encU_len' (k v : Nat) (h : v < 128 ^ (k + 1)) : (encU v).length ≤ k + 1 := by
  induction k generalizing v with
  | zero => rw [encU_lt (by simpa using h)]; simp
  | succ k ih =>
    by_cases hv : v < 128
    · rw [encU_lt hv]; simp
    · rw [encU_ge hv, List.length_cons]
      have := ih (v / 128) (by rw [Nat.div_lt_iff_lt_mul (by omega)]; rw [Nat.pow_succ] at h; exact h)
      omega
theorem encU_len (v : Nat) (h : v < 18446744073709551616) : (encU v).length ≤ 10 := encU_len' 9 v (by omega)
theorem bits_or_all : ∀ x : Fin 256, bits BinOp.or IntKind.u8 ((x.val : Nat) : Int) 128 = ((x.val % 128 + 128 : Nat) : Int) := by decide +kernel
theorem bits_or128 (m : Nat) : bits BinOp.or IntKind.u8 ((m : Int) % 256) 128 = ((m % 128 + 128 : Nat) : Int) := by
  have h := bits_or_all ⟨m % 256, by omega⟩
  rw [show ((m % 256 : Nat) : Int) = (m : Int) % 256 by omega] at h
  rw [h, show m % 256 % 128 = m % 128 by omega]
theorem byt_app {B : Nat} {w wr w2 : World} {O : List Int} {k : Int} {oa : Option Addr} {ocap g cap : Nat} {ob : Obj} (hb : Below B w wr) (hB : B ≤ w.heap.size) (hO : wr.ownsRow B 5 1 (.slice oa O.length ocap) O.length (bV O))
    (hgrow : (wr.alloc ob).grownBy w2 (Value.slice oa O.length ocap).ownBlock) (hown : w2.ownsRow B 5 1 (.slice (some ⟨g, 0, none⟩) (O.length + 1) cap) (O.length + 1) (bV O ++ [.int .u8 k])) :
    Below B w w2 ∧ w2.ownsRow B 5 1 (.slice (some ⟨g, 0, none⟩) (O.length + 1) cap) (O ++ [k]).length (bV (O ++ [k])) := by
  obtain ⟨_, _, _, hoo⟩ := owns_shape hO
  have hs : B ≤ wr.heap.size := Nat.le_trans hB hb.size
  refine ⟨(hb.alloc hs ob).grown hgrow (by rw [World.size_alloc]; exact Nat.le_succ_of_le hs) (fun y hy => (hoo y hy).1), ?_⟩
  rw [bV_push, List.length_append]; exact hown

set_option maxRecDepth 100000 in
set_option maxHeartbeats 400000 in
theorem nput153_any (l : List Int) (v : Value) (u B : Nat) (w : World) (hu : u < 18446744073709551616) (hl : l.length < 4294960000) (hB : B ≤ w.heap.size) (h : w.ownsRow B 5 1 v l.length (bV l)) :
    Calls Try.prog 153 #[v, .int .u64 u] w fun e w' => Below B w w' ∧ ∃ v', e = .returned v' ∧ w'.ownsRow B 5 1 v' (l ++ encU u).length (bV (l ++ encU u)) := by
  obtain ⟨i0, hi0, hz0, hz1, hz2⟩ := info_parts infoB
  have HO := Lib.hid h; clear h
  go_enter Try.func153, Try.ntmps153
  go_wp2_with fail
  go_loopw [0, 1] (fun p n wr => ∃ (m : Nat) (O : List Int), n = .int .u64 m ∧ m ≤ u ∧ Hid (O ++ encU m = l ++ encU u) ∧ Hid (Below B w wr) ∧ Hid (wr.ownsRow B 5 1 p O.length (bV O))) (fun _ n _ => (intOf n).toNat)
  case atStart => exact ⟨u, l, rfl, Nat.le_refl _, Lib.hid rfl, Lib.hid (Below.refl _ _), HO⟩
  case round =>
    obtain ⟨m, O, rfl, hmu, HE, HB, HOW⟩ := hrel
    obtain ⟨oa, ocap, rfl, hoo⟩ := owns_shape HOW.out
    have hbs : B ≤ wr.heap.size := Nat.le_trans hB HB.out.size
    have hOl : O.length + 1 ≤ l.length + 12 := by
      have h1 := congrArg List.length HE.out
      rw [List.length_append, List.length_append] at h1
      have h2 := encU_len u hu
      have h3 := encU_pos m
      omega
    have hm1 : O.length + 1 ≤ maxLen := by unfold maxLen; omega
    have hm2 : (O.length + 1) * 1 ≤ 140737488355328 := by omega
    by_cases hm : m < 128
    · have t1 : decide (128 ≤ (m : Int)) = false := by simp; omega
      have HD := Lib.hid (show O ++ [(m : Int)] = l ++ encU u by rw [← HE.out, encU_lt hm])
      go_wp2_with (at_builtin; refine wpList_append_lies _ rfl _ _ _ rfl B 5 i0 _ 1 1 Try.underlying92 hi0 hz0 hz1 hz2 rfl (by omega) (.slice oa O.length ocap) O.length (bV O) rfl (HOW.out.alloc _) ⟨wr.heap.size, 0, none⟩ 1 1 [.int .u8 m] rfl rfl (World.news_of_block (cs := #[.int .u8 m]) (t := 5) (fr := (0, 0)) (heap_alloc_new _ _)) (by simp [Value.oneCell']) (by omega) hm1 hm2 (Nat.le_trans hbs (by rw [World.size_alloc]; exact Nat.le_succ _)) _ rfl ?_; intro gg2 cap2 w2 hown2 hgrow2 hat2 hlt2)
      obtain ⟨hb3, ho3⟩ := byt_app HB.out hB HOW.out hgrow2 hown2
      have HB3 := Lib.hid hb3
      have HO3 := Lib.hid ho3
      clear hown2 hgrow2 hat2 hlt2 hb3 ho3
      go_wp2_with fail
      go_ret
      exact ⟨HB3.out, _, rfl, by rw [← HD.out]; exact HO3.out⟩
    · have t1 : decide (128 ≤ (m : Int)) = true := by simp; omega
      have HD := Lib.hid (show (O ++ [bits BinOp.or IntKind.u8 ((m : Int) % 256) 128]) ++ encU (m / 128) = l ++ encU u by rw [← HE.out, encU_ge hm, bits_or128]; simp)
      go_wp2_with (at_builtin; refine wpList_append_lies _ rfl _ _ _ rfl B 5 i0 _ 1 1 Try.underlying92 hi0 hz0 hz1 hz2 rfl (by omega) (.slice oa O.length ocap) O.length (bV O) rfl (HOW.out.alloc _) ⟨wr.heap.size, 0, none⟩ 1 1 [.int .u8 (bits BinOp.or IntKind.u8 ((m : Int) % 256) 128)] rfl rfl (World.news_of_block (cs := #[.int .u8 (bits BinOp.or IntKind.u8 ((m : Int) % 256) 128)]) (t := 5) (fr := (0, 0)) (heap_alloc_new _ _)) (by simp [Value.oneCell']) (by omega) hm1 hm2 (Nat.le_trans hbs (by rw [World.size_alloc]; exact Nat.le_succ _)) _ rfl ?_; intro gg2 cap2 w2 hown2 hgrow2 hat2 hlt2)
      obtain ⟨hb3, ho3⟩ := byt_app HB.out hB HOW.out hgrow2 hown2
      have HB3 := Lib.hid hb3
      have HO3 := Lib.hid ho3
      clear hown2 hgrow2 hat2 hlt2 hb3 ho3
      go_wp2_with fail
      go_roundw
      case rel => exact ⟨m / 128, O ++ [bits BinOp.or IntKind.u8 ((m : Int) % 256) 128], by go_num, by omega, HD, HB3, HO3⟩
      case measure => simp [intOf]; omega
theorem run_make92 (n : Nat) (hn : n < 4294967296) (w : World) :
    (Instr.makeSlice 92 (.int .i64 0) (.int .i64 (n : Int))).run Try.prog w = .ok (.slice (some ⟨w.heap.size, 0, none⟩) 0 n) (w.alloc (.cells (madeCells #[.int .u8 0] n) 5)) := by
  obtain ⟨i, hi, hzz⟩ := Option.map_eq_some_iff.1 infoB
  simp only [Prod.mk.injEq] at hzz
  obtain ⟨hz, hs, hb⟩ := hzz
  have hr := run_make (P := Try.prog) w 92 5 i _ Try.underlying92 hi hz .i64 .i64 0 n (by omega) (by omega) (by rw [hb]; omega) (by omega)
  simpa [Int.toNat_natCast, hs, Value.cells] using hr
/-- Bytes in memory, nil or not. -/
structure ByG (w : World) (l : List Int) (v : Value) : Prop where
  row : Row anyB w 1 l.length v (bV l)
  nil : NilA v
theorem ByG.more {w w' : World} {l : List Int} {v : Value} (h : ByG w l v) (hm : More w w') : ByG w' l v := ⟨h.row.below hm.below, h.nil⟩
theorem ByG.of_owns {w : World} {B : Nat} {l : List Int} {v : Value} (h : w.ownsRow B 5 1 v l.length (bV l)) : ByG w l v := ⟨(Row.of_owns h).mono (fun _ _ => trivial) (fun _ _ _ _ h => h), owns_nil h⟩
set_option maxRecDepth 100000 in
set_option maxHeartbeats 1000000 in
theorem put147_any (l : List Int) (v : Value) (u : Nat) (w : World) (hu : u < 18446744073709551616) (hl : l.length < 4294900000) (h : ByG w l v) :
    Calls Try.prog 147 #[v, .int .u64 u] w fun e w' => (∃ v', e = .returned v' ∧ w'.ownsRow w.heap.size 5 1 v' (l ++ encU u).length (bV (l ++ encU u))) ∧ Below w.heap.size w w' := by
  obtain ⟨i0, hi0, hz0, hz1, hz2⟩ := info_parts infoB
  obtain ⟨a, cap, rfl, _⟩ := h.row.shape
  obtain ⟨N, hN⟩ : ∃ N, N = l.length + 10 := ⟨_, rfl⟩
  have HN := Lib.hid hN
  have hmk := run_make92 N (by omega) w
  rw [show ((N : Nat) : Int) = (l.length : Int) + 10 by omega] at hmk
  have HOWN := Lib.hid (World.ownsRow_made (base := w.heap.size) (e := 5) (size := 1) w (madeCells #[.int .u8 0] N) N (Nat.le_refl _) (by unfold maxLen; omega) (by simp [madeCells]))
  have HM0 := Lib.hid (more_alloc w (.cells (madeCells #[.int .u8 0] N) 5))
  have HR := Lib.hid (h.row.below HM0.out.below)
  have HNI := Lib.hid h.nil
  clear h hN
  generalize hR : l ++ encU u = R
  have HRR := Lib.hid hR; clear hR
  obtain ⟨ln, HLN⟩ : ∃ ln, Hid (l.length = ln) := ⟨_, Lib.hid rfl⟩
  rw [HLN.out] at HR hl hmk HNI ⊢
  have hm1 : 0 + ln ≤ maxLen := by unfold maxLen; omega
  have hm2 : (0 + ln) * 1 ≤ 140737488355328 := by omega
  have HW := Lib.hid (And.intro hm1 hm2)
  clear hm1 hm2
  have hw10 : IntKind.i64.wrap ((ln : Int) + 10) = (ln : Int) + 10 := by rw [IntKind.wrap_i64]; omega
  go_enter Try.func147, Try.ntmps147
  go_upto_region 2 with (fail)
  have HS0 := Lib.hid (show w.heap.size ≤ (w.alloc (.cells (madeCells #[.int .u8 0] N) 5)).heap.size from HM0.out.size)
  generalize w.alloc (.cells (madeCells #[.int .u8 0] N) 5) = w1 at *
  go_wp2_with (at_builtin; refine wpList_append_rowC rfl _ _ 92 rfl w.heap.size 5 i0 _ 1 1 Try.underlying92 hi0 hz0 hz1 hz2 rfl (by omega) (.slice (some ⟨w.heap.size, 0, none⟩) 0 N) 0 [] (by first | rfl | (rw [HN.out, HLN.out]; rfl)) HOWN.out (.slice a ln cap) ln (bV l) rfl HR.out HNI.out (bV_one l) HW.out.1 HW.out.2 HS0.out ?_; intro v2 w2 hown hgrow; rw [Nat.zero_add, List.nil_append] at hown; obtain ⟨ga, gc, rfl, _⟩ := owns_shape hown)
  have HB2 := Lib.hid (show Below w.heap.size w w2 from HM0.out.below.grown hgrow HS0.out (fun z hz => (HOWN.out.lt z hz).1))
  have HO2 := Lib.hid (show w2.ownsRow w.heap.size 5 1 (.slice ga l.length gc) l.length (bV l) by rw [HLN.out]; exact hown)
  clear hown hgrow hmk
  have HP := Lib.hid (nput153_any l _ u w.heap.size w2 hu (by rw [HLN.out]; omega) HB2.out.size HO2.out)
  rw [HLN.out] at HP
  refine HP.out.mono ?_
  rw [HRR.out]
  rintro e w' ⟨hb, v', rfl, ho⟩
  have HB := Lib.hid (HB2.out.trans hb)
  have HO := Lib.hid ho
  clear hb ho
  obtain ⟨va, vc, rfl, _⟩ := owns_shape HO.out
  go_wp2_with fail
  go_ret
  exact ⟨⟨_, rfl, HO.out⟩, HB.out⟩
/-- 2 x, or -2 x - 1. -/
def zz (x : Int) : Nat := if x < 0 then (-2 * x - 1).toNat else (2 * x).toNat
theorem zz_lt {x : Int} (h1 : -9223372036854775808 ≤ x) (h2 : x ≤ 9223372036854775807) : zz x < 18446744073709551616 := by
  unfold zz; split <;> omega
theorem xor_max (y : Nat) (h : y < 18446744073709551616) : 18446744073709551615 ^^^ y = 18446744073709551615 - y := by
  have := BitVec.toNat_not (x := BitVec.ofNat 64 y)
  rw [BitVec.not_def, BitVec.toNat_xor, BitVec.toNat_allOnes, BitVec.toNat_ofNat, Nat.mod_eq_of_lt h] at this
  exact this
theorem zz_neg {x : Int} (h1 : -9223372036854775808 ≤ x) (hx : x < 0) : bits BinOp.xor IntKind.u64 IntKind.u64.max (IntKind.u64.wrap (IntKind.u64.wrap x * 2)) = (zz x : Int) := by
  have hz : zz x = (-2 * x - 1).toNat := by unfold zz; rw [if_pos hx]
  obtain ⟨y, hy⟩ : ∃ y : Nat, (y : Int) = 18446744073709551616 + 2 * x := ⟨(18446744073709551616 + 2 * x).toNat, by omega⟩
  have e1 : IntKind.u64.wrap (IntKind.u64.wrap x * 2) = (y : Int) := by rw [IntKind.wrap_u64, IntKind.wrap_u64]; omega
  have e2 : IntKind.u64.max = ((18446744073709551615 : Nat) : Int) := by decide
  rw [e1, e2, bits_xor_u64_nat _ _ (by omega) (by omega), xor_max y (by omega)]
  omega
theorem zz_pos {x : Int} (h2 : x ≤ 9223372036854775807) (hx : ¬ x < 0) : IntKind.u64.wrap (IntKind.u64.wrap x * 2) = (zz x : Int) := by
  have hz : zz x = (2 * x).toNat := by unfold zz; rw [if_neg hx]
  rw [IntKind.wrap_u64, IntKind.wrap_u64]; omega
set_option maxHeartbeats 400000 in
theorem zigzag154_any (x : Int) (w : World) (h1 : -9223372036854775808 ≤ x) (h2 : x ≤ 9223372036854775807) : Calls Try.prog 154 #[.int .i64 x] w fun e w' => e = .returned (.int .u64 (zz x)) ∧ w = w' := by
  by_cases hx : x < 0
  · have t1 : decide (x < 0) = true := by simp [hx]
    have HZ := Lib.hid (zz_neg h1 hx)
    clear h1 h2
    go_enter Try.func154, Try.ntmps154
    go_wp2_with fail
    go_ret
    exact ⟨by rw [← HZ.out]; rfl, rfl⟩
  · have t1 : decide (x < 0) = false := by simpa using hx
    have HZ := Lib.hid (zz_pos h2 hx)
    clear h1 h2 hx
    go_enter Try.func154, Try.ntmps154
    go_wp2_with fail
    go_ret
    exact ⟨by rw [← HZ.out]; rfl, rfl⟩

set_option maxRecDepth 100000 in
set_option maxHeartbeats 400000 in
theorem putInt103_any (l : List Int) (v : Value) (x : Int) (w : World) (h1 : -9223372036854775808 ≤ x) (h2 : x ≤ 9223372036854775807) (hl : l.length < 4294900000) (h : ByG w l v) :
    Calls Try.prog 103 #[v, .int .i64 x] w fun e w' => (∃ v', e = .returned v' ∧ w'.ownsRow w.heap.size 5 1 v' (l ++ encU (zz x)).length (bV (l ++ encU (zz x)))) ∧ Below w.heap.size w w' := by
  obtain ⟨a, cap, rfl, _⟩ := h.row.shape
  have HV := Lib.hid (put147_any l _ (zz x) w (zz_lt h1 h2) hl h)
  clear h
  generalize hR : l ++ encU (zz x) = R at *
  clear hR
  go_enter Try.func103, Try.ntmps103
  go_wp2_with fail
  refine (zigzag154_any x w h1 h2).mono ?_
  rintro e w' ⟨rfl, rfl⟩
  go_wp2_with fail
  refine HV.out.mono ?_
  rintro e w' ⟨⟨v', rfl, ho⟩, hb⟩
  have HB := Lib.hid hb
  have HO := Lib.hid ho
  clear hb ho
  obtain ⟨va, vc, rfl, _⟩ := owns_shape HO.out
  go_wp2_with fail
  go_ret
  exact ⟨⟨_, rfl, HO.out⟩, HB.out⟩
set_option maxRecDepth 100000 in
set_option maxHeartbeats 400000 in
theorem putInt102_any (l : List Int) (v : Value) (x : Nat) (w : World) (h2 : (x : Int) ≤ 9223372036854775807) (hl : l.length < 4294900000) (h : ByG w l v) :
    Calls Try.prog 102 #[v, .int .i64 x] w fun e w' => (∃ v', e = .returned v' ∧ w'.ownsRow w.heap.size 5 1 v' (l ++ encU x).length (bV (l ++ encU x))) ∧ Below w.heap.size w w' := by
  obtain ⟨a, cap, rfl, _⟩ := h.row.shape
  have HV := Lib.hid (put147_any l _ x w (by omega) hl h)
  clear h
  generalize hR : l ++ encU x = R at *
  clear hR
  have hw : IntKind.u64.wrap (x : Int) = x := by rw [IntKind.wrap_u64]; omega
  go_enter Try.func102, Try.ntmps102
  go_wp2_with fail
  refine HV.out.mono ?_
  rintro e w' ⟨⟨v', rfl, ho⟩, hb⟩
  have HB := Lib.hid hb
  have HO := Lib.hid ho
  clear hb ho
  obtain ⟨va, vc, rfl, _⟩ := owns_shape HO.out
  go_wp2_with fail
  go_ret
  exact ⟨⟨_, rfl, HO.out⟩, HB.out⟩
end Go.Proofs.Ytemeppfikpafbaa

/- (choice.Set).Bytes (97) on any set. -/
namespace Go.Proofs.Ytemeppfikpafbaa
open Go.RowKit
def l6 (x : Cg) : List Nat := [x.k.a.toNat, x.k.b.toNat, x.k.n.toNat, x.t.toNat, x.d.toNat, x.l.length]
def encC (x : Cg) : List Int := x.k.kind :: ((l6 x).flatMap encU ++ x.l.flatMap fun v => encU (zz v))
def encS (l : List Cg) : List Int := encU l.length ++ l.flatMap encC
theorem flat_len_le {α : Type} {f : α → List Int} {m : Nat} : ∀ {l : List α}, (∀ x ∈ l, (f x).length ≤ m) → (l.flatMap f).length ≤ l.length * m
  | [], _ => by simp
  | x :: r, h => by
    rw [List.flatMap_cons, List.length_append, List.length_cons, Nat.add_mul]
    have h1 := h x (by simp)
    have h2 := flat_len_le (l := r) fun y hy => h y (List.mem_cons_of_mem _ hy)
    omega
theorem encU_le (v : Nat) (h : v < 18446744073709551616) : (encU v).length ≤ 10 := encU_len v h
theorem CgOk.small {x : Cg} (h : CgOk x) : ∀ v ∈ l6 x, v < 70000 := by
  have h1 := h.key
  have h2 := h1.a1; have h3 := h1.b1; have h4 := h1.n1; have h5 := h.t1; have h6 := h.d1; have h7 := h.args
  have hb : topB x.k.kind ≤ 7 := by unfold topB; split <;> (try split) <;> omega
  have ht : topT x.k.kind ≤ 200 := by unfold topT; split <;> omega
  have hd : topD x.k.kind ≤ 200 := by unfold topD; split <;> (try split) <;> (try split) <;> omega
  intro v hv
  simp only [l6, List.mem_cons, List.not_mem_nil, or_false] at hv
  rcases hv with rfl | rfl | rfl | rfl | rfl | rfl <;> omega
theorem encC_len {x : Cg} (h : CgOk x) (hi : ∀ v ∈ x.l, In64 v) : (encC x).length ≤ 101 := by
  unfold encC
  rw [List.length_cons, List.length_append]
  have h1 := flat_len_le (f := encU) (m := 10) (l := l6 x) fun v hv => encU_le v (by have := h.small v hv; omega)
  have h2 := flat_len_le (f := fun v => encU (zz v)) (m := 10) (l := x.l) fun v hv => encU_le _ (zz_lt (hi v hv).1 (hi v hv).2)
  have h3 := h.args
  have h4 : (l6 x).length = 6 := rfl
  rw [h4] at h1
  omega
theorem idx228_0 (a b c d e f : Value) (w : World) : (Instr.index 228 (.agg #[a, b, c, d, e, f]) (.int .i64 0)).run Try.prog w = .ok a w := by kernel_rfl
theorem idx228_1 (a b c d e f : Value) (w : World) : (Instr.index 228 (.agg #[a, b, c, d, e, f]) (.int .i64 1)).run Try.prog w = .ok b w := by kernel_rfl
theorem idx228_2 (a b c d e f : Value) (w : World) : (Instr.index 228 (.agg #[a, b, c, d, e, f]) (.int .i64 2)).run Try.prog w = .ok c w := by kernel_rfl
theorem idx228_3 (a b c d e f : Value) (w : World) : (Instr.index 228 (.agg #[a, b, c, d, e, f]) (.int .i64 3)).run Try.prog w = .ok d w := by kernel_rfl
theorem idx228_4 (a b c d e f : Value) (w : World) : (Instr.index 228 (.agg #[a, b, c, d, e, f]) (.int .i64 4)).run Try.prog w = .ok e w := by kernel_rfl
theorem idx228_5 (a b c d e f : Value) (w : World) : (Instr.index 228 (.agg #[a, b, c, d, e, f]) (.int .i64 5)).run Try.prog w = .ok f w := by kernel_rfl
set_option maxRecDepth 100000 in
set_option maxHeartbeats 4000000 in
theorem bytes97_any (l : List GV) (v : Value) (w : World) (hs : SetAt anyB w v l) (hi : ∀ p ∈ l, ∀ n ∈ p.2.l, In64 n) :
    Calls Try.prog 97 #[.agg #[v]] w fun e w' => (∃ v', e = .returned v' ∧ w'.ownsRow w.heap.size 5 1 v' (encS (l.map (·.2))).length (bV (encS (l.map (·.2))))) ∧ Below w.heap.size w w' := by
  obtain ⟨a, cap, rfl, _⟩ := hs.row.shape
  have HS := Lib.hid hs; clear hs
  have HI := Lib.hid hi; clear hi
  obtain ⟨i0, hi0, hz0, hz1, hz2⟩ := info_parts infoB
  have HLN := Lib.hid HS.out.len
  obtain ⟨ln, HLE⟩ : ∃ ln, Hid (l.length = ln) := ⟨_, Lib.hid rfl⟩
  rw [HLE.out] at HLN ⊢
  have HSB := Lib.hid (alloc_last w (.cells #[.slice a ln cap] 73))
  have HM1 := Lib.hid (more_alloc w (.cells #[.slice a ln cap] 73))
  obtain ⟨N, HN⟩ : ∃ N, Hid (N = w.heap.size) := ⟨_, Lib.hid rfl⟩
  rw [← HN.out] at HSB ⊢
  have hln := HLN.out
  have hw : IntKind.u64.wrap (ln : Int) = ln := by rw [IntKind.wrap_u64]; omega
  go_enter Try.func97, Try.ntmps97
  go_upto_region 1 with (fail)
  rw [← HN.out]
  generalize w.alloc (.cells #[.slice a ln cap] 73) = w1 at *
  have c0 : w1.cell? ⟨N, 0, none⟩ = some (.slice a ln cap) := cell_of_blk HSB.out rfl
  have hbc := cell_lt c0
  have HP0 := Lib.hid (put147_any [] (.slice none 0 0) ln w1 (by omega) (by simp) ⟨Row.nil _ _ _ _ _, fun n c e => by cases e; rfl⟩)
  go_wp2_with fail
  refine HP0.out.mono ?_
  rintro e w2 ⟨⟨v2, rfl, ho2⟩, hb2⟩
  rw [List.nil_append] at ho2
  have HM2 := Lib.hid (more_trans HM1.out (more_of hb2))
  have HSB2 := Lib.hid (((more_of hb2).block (blk_lt HSB.out)).trans HSB.out)
  have HO2 := Lib.hid (show w2.ownsRow (N + 1) 5 1 v2 (encU ln).length (bV (encU ln)) from owns_base ho2 (by have := blk_lt HSB.out; omega))
  have HB2 := Lib.hid (show Below N w w2 by rw [HN.out]; exact HM2.out.below)
  obtain ⟨va, vc, rfl, _⟩ := owns_shape ho2
  clear hb2 ho2 c0 hbc HP0
  have c0 : w2.cell? ⟨N, 0, none⟩ = some (.slice a ln cap) := cell_of_blk HSB2.out rfl
  have hbc := cell_lt c0
  go_wp2_with fail
  clear c0 hbc hw
  go_loopw [3, 18] (fun p i wr => ∃ (j : Nat) (O : List Int), j ≤ ln ∧ i = .int .i64 j ∧ Hid (wr.ownsRow (N + 1) 5 1 p O.length (bV O)) ∧ Hid (O = encU ln ++ ((l.take j).map (·.2)).flatMap encC) ∧ Hid (Below N w wr) ∧ Hid (N + 1 ≤ wr.heap.size) ∧ Hid (O.length ≤ 10 + j * 101)) (fun _ i _ => ln - (intOf i).toNat)
  case atStart => exact ⟨0, encU ln, Nat.zero_le _, rfl, HO2, Lib.hid (by simp), HB2, Lib.hid (blk_lt HSB2.out), Lib.hid (by have := encU_len ln (by omega); omega)⟩
  case round =>
    obtain ⟨j, O, hj, rfl, HO, HOE, HB, HNS, HOL⟩ := hrel
    obtain ⟨wo, rfl⟩ : ∃ wo : World, wo = wr := ⟨_, rfl⟩
    have HMW := Lib.hid (show More w wo from by have := HB.out; rw [HN.out] at this; exact more_of this)
    obtain ⟨oa, oc, rfl, _⟩ := owns_shape HO.out
    by_cases hlt : j < ln
    · have hjl : j < l.length := by rw [HLE.out]; exact hlt
      have hrw := HS.out.row
      obtain ⟨b, off, rfl, _, hc⟩ := hrw.atC gC_len hjl
      have g0 := HMW.out.cell (hc 0 (.int .u8 l[j].2.k.kind) rfl)
      have g1 := HMW.out.cell (hc 1 (.int .i64 l[j].2.k.a) rfl)
      have g2 := HMW.out.cell (hc 2 (.int .i64 l[j].2.k.b) rfl)
      have g3 := HMW.out.cell (hc 3 (.int .i64 l[j].2.k.n) rfl)
      have g4 := HMW.out.cell (hc 4 (.int .i64 l[j].2.t) rfl)
      have g5 := HMW.out.cell (hc 5 (.int .i64 l[j].2.d) rfl)
      have g6 := HMW.out.cell (hc 6 l[j].1 rfl)
      rw [Nat.add_zero] at g0
      clear hc hrw
      have HGA := Lib.hid (HS.out.arg _ (List.getElem_mem hjl))
      obtain ⟨xa, xc, hxv, _⟩ := HGA.out.row.shape
      rw [hxv] at g6
      have HXV := Lib.hid hxv
      clear hxv
      have HKO := Lib.hid (HS.out.ok _ (List.getElem_mem hjl))
      have HIX := Lib.hid (HI.out _ (List.getElem_mem hjl))
      have HT := Lib.hid (show (l.take (j + 1)).map (·.2) = (l.take j).map (·.2) ++ [l[j].2] by rw [List.take_succ_eq_append_getElem hjl, List.map_append]; rfl)
      have HLT := Lib.hid hlt
      generalize l[j] = x at *
      clear hjl
      obtain ⟨na, hna⟩ : ∃ na : Nat, x.2.k.a = na := ⟨x.2.k.a.toNat, by have := HKO.out.key.a0; omega⟩
      obtain ⟨nb, hnb⟩ : ∃ na : Nat, x.2.k.b = na := ⟨x.2.k.b.toNat, by have := HKO.out.key.b0; omega⟩
      obtain ⟨nn, hnn⟩ : ∃ na : Nat, x.2.k.n = na := ⟨x.2.k.n.toNat, by have := HKO.out.key.n0; omega⟩
      obtain ⟨nt, hnt⟩ : ∃ na : Nat, x.2.t = na := ⟨x.2.t.toNat, by have := HKO.out.t0; omega⟩
      obtain ⟨nd, hnd⟩ : ∃ na : Nat, x.2.d = na := ⟨x.2.d.toNat, by have h1 := HKO.out.d0; have h2 : 0 ≤ lowD x.2.k.kind := (by unfold lowD; split <;> omega); omega⟩
      obtain ⟨an, HAN⟩ : ∃ an, Hid (x.2.l.length = an) := ⟨_, Lib.hid rfl⟩
      have HL6 := Lib.hid (show l6 x.2 = [na, nb, nn, nt, nd, an] by unfold l6; rw [hna, hnb, hnn, hnt, hnd, HAN.out]; rfl)
      have HSM := Lib.hid (show na < 70000 ∧ nb < 70000 ∧ nn < 70000 ∧ nt < 70000 ∧ nd < 70000 ∧ an < 70000 from by
        have h1 := HKO.out.small
        rw [HL6.out] at h1
        exact ⟨h1 na (by simp), h1 nb (by simp), h1 nn (by simp), h1 nt (by simp), h1 nd (by simp), h1 an (by simp)⟩)
      rw [hna] at g1
      rw [hnb] at g2
      rw [hnn] at g3
      rw [hnt] at g4
      rw [hnd] at g5
      rw [HAN.out] at g6
      clear hna hnb hnn hnt hnd
      have HCL := Lib.hid (encC_len HKO.out HIX.out)
      obtain ⟨kd, HKD⟩ : ∃ kd, Hid (x.2.k.kind = kd) := ⟨_, Lib.hid rfl⟩
      rw [HKD.out] at g0
      have hbg := cell_lt g0
      have HXB := Lib.hid (alloc_last wo (.cells #[.int .u8 kd, .int .i64 na, .int .i64 nb, .int .i64 nn, .int .i64 nt, .int .i64 nd, .slice xa an xc] 113))
      have HMO := Lib.hid (more_alloc wo (.cells #[.int .u8 kd, .int .i64 na, .int .i64 nb, .int .i64 nn, .int .i64 nt, .int .i64 nd, .slice xa an xc] 113))
      go_upto_region 5 with (fail)
      clear g0 g1 g2 g3 g4 g5 g6 hbg
      generalize wo.alloc (.cells #[.int .u8 kd, .int .i64 na, .int .i64 nb, .int .i64 nn, .int .i64 nt, .int .i64 nd, .slice xa an xc] 113) = w5 at *
      obtain ⟨XB, HXE⟩ : ∃ XB, Hid (XB = wo.heap.size) := ⟨_, Lib.hid rfl⟩
      rw [← HXE.out] at HXB ⊢
      have HO5 := Lib.hid (owns_keep HO.out (fun z hz => HMO.out.block (HO.out.lt z hz).2))
      have HS5 := Lib.hid (Nat.le_trans HNS.out HMO.out.size)
      have x0 : w5.cell? ⟨XB, 0, none⟩ = some (.int .u8 kd) := cell_of_blk HXB.out rfl
      have hbx := cell_lt x0
      have HR1 := Lib.hid (show O.length + 1 ≤ maxLen ∧ (O.length + 1) * 1 ≤ 140737488355328 from by have h1 := HOL.out; have h2 := HLN.out; unfold maxLen; omega)
      go_upto_region 6 with (at_builtin; refine wpList_append_own _ rfl _ _ 92 rfl (N + 1) 5 i0 _ 1 1 Try.underlying92 hi0 hz0 hz1 hz2 rfl (by omega) (.slice oa O.length oc) O.length (bV O) rfl (owns_keep HO5.out (fun z hz => Below.heap_alloc w5 _ _ (HO5.out.lt z hz).2)) ⟨w5.heap.size, 0, none⟩ 1 1 [.int .u8 kd] rfl rfl (World.news_of_block (cs := #[.int .u8 kd]) (t := 5) (fr := (0, 0)) (alloc_last _ _)) (by simp [Value.oneCell']) HR1.out.1 HR1.out.2 (by rw [World.size_alloc]; exact Nat.le_succ_of_le HS5.out) ?_; intro v6 w6 hown6 hgrow6 _)
      have HXB6 := Lib.hid ((hgrow6.block XB (by rw [World.size_alloc]; exact Nat.lt_succ_of_lt (blk_lt HXB.out)) (fun e => by have h1 := (HO.out.lt XB e.symm).2; have h2 := HXE.out; omega)).trans ((Below.heap_alloc w5 _ _ (blk_lt HXB.out)).trans HXB.out))
      have HB6 := Lib.hid (show Below N w w6 from ((HB.out.trans (HMO.out.below.mono (by have := HNS.out; omega))).alloc (by have := HS5.out; omega) _).grown hgrow6 (by rw [World.size_alloc]; have := HS5.out; omega) (fun z hz => by have := (HO.out.lt z hz).1; omega))
      have HS6 := Lib.hid (show N + 1 ≤ w6.heap.size from Nat.le_trans (by rw [World.size_alloc]; exact Nat.le_succ_of_le HS5.out) hgrow6.size)
      have HO6 := Lib.hid (show w6.ownsRow (N + 1) 5 1 v6 (O ++ [kd]).length (bV (O ++ [kd])) by rw [bV_push, List.length_append]; exact hown6)
      have HMWA := Lib.hid (show More w w6 from by have := HB6.out; rw [HN.out] at this; exact more_of this)
      obtain ⟨oa6, oc6, rfl, _⟩ := owns_shape hown6
      clear hown6 hgrow6 x0 hbx
      have x1 : w6.cell? ⟨XB, 1, none⟩ = some (.int .i64 na) := cell_of_blk HXB6.out rfl
      have x2 : w6.cell? ⟨XB, 2, none⟩ = some (.int .i64 nb) := cell_of_blk HXB6.out rfl
      have x3 : w6.cell? ⟨XB, 3, none⟩ = some (.int .i64 nn) := cell_of_blk HXB6.out rfl
      have x4 : w6.cell? ⟨XB, 4, none⟩ = some (.int .i64 nt) := cell_of_blk HXB6.out rfl
      have x5 : w6.cell? ⟨XB, 5, none⟩ = some (.int .i64 nd) := cell_of_blk HXB6.out rfl
      have x6 : w6.cell? ⟨XB, 6, none⟩ = some (.slice xa an xc) := cell_of_blk HXB6.out rfl
      have hbx := cell_lt x1
      go_wp2_with fail
      clear x1 x2 x3 x4 x5 x6 hbx
      go_loopw [3, 45] (fun p i wx => ∃ (m : Nat) (Q : List Int), m ≤ 6 ∧ i = .int .i64 m ∧ Hid (wx.ownsRow (N + 1) 5 1 p Q.length (bV Q)) ∧ Hid (Q = O ++ [kd] ++ ((l6 x.2).take m).flatMap encU) ∧ Hid (More w6 wx) ∧ Hid (Q.length ≤ O.length + 1 + m * 10)) (fun _ i _ => 6 - (intOf i).toNat)
      case atStart => exact ⟨0, O ++ [kd], by omega, rfl, by simpa using HO6, Lib.hid (by simp), Lib.hid (World.grownBy.refl _ _), Lib.hid (by simp)⟩
      case round =>
        obtain ⟨m, Q, hm, rfl, HQ, HQE, HMX, HQL⟩ := hrel
        obtain ⟨wx, rfl⟩ : ∃ wx : World, wx = wr := ⟨_, rfl⟩
        obtain ⟨qa, qc, rfl, _⟩ := owns_shape HQ.out
        have hsm := HSM.out
        by_cases hm6 : m < 6
        · have HPU := Lib.hid (fun (u : Nat) (hu : u < 70000) => put147_any Q _ u wx (by omega) (by have h1 := HQL.out; have h2 := HOL.out; have h3 := HLN.out; omega) (ByG.of_owns HQ.out))
          have HSX := Lib.hid (Nat.le_trans HS6.out HMX.out.size)
          have hwu : ∀ u : Nat, u < 70000 → IntKind.u64.wrap (u : Int) = u := fun u hu => by rw [IntKind.wrap_u64]; omega
          have hw0 := hwu na hsm.1
          have hw1 := hwu nb hsm.2.1
          have hw2 := hwu nn hsm.2.2.1
          have hw3 := hwu nt hsm.2.2.2.1
          have hw4 := hwu nd hsm.2.2.2.2.1
          have hw5 := hwu an hsm.2.2.2.2.2
          clear hwu
          have hmc : m = 0 ∨ m = 1 ∨ m = 2 ∨ m = 3 ∨ m = 4 ∨ m = 5 := by omega
          rcases hmc with rfl | rfl | rfl | rfl | rfl | rfl
          · have hix := fun a b c d e f W => idx228_0 a b c d e f W
            go_wp2_with fail
            refine (HPU.out na hsm.1).mono ?_
            rintro e w8 ⟨⟨v8, rfl, ho8⟩, hb8⟩
            have HO8 := Lib.hid (owns_base ho8 HSX.out)
            have HM8 := Lib.hid (more_trans HMX.out (more_of hb8))
            obtain ⟨va8, vc8, rfl, _⟩ := owns_shape ho8
            clear ho8 hb8
            go_wp2_with fail
            go_roundw
            case rel => exact ⟨1, Q ++ encU na, by omega, by go_num, Lib.hid (by rw [← List.length_append]; exact HO8.out), Lib.hid (by rw [HQE.out, HL6.out]; simp [List.flatMap_cons, List.append_assoc]), HM8, Lib.hid (by rw [List.length_append]; have h1 := HQL.out; have h2 := encU_len na (by omega); omega)⟩
            case measure => simp [intOf]
          · have hix := fun a b c d e f W => idx228_1 a b c d e f W
            go_wp2_with fail
            refine (HPU.out nb hsm.2.1).mono ?_
            rintro e w8 ⟨⟨v8, rfl, ho8⟩, hb8⟩
            have HO8 := Lib.hid (owns_base ho8 HSX.out)
            have HM8 := Lib.hid (more_trans HMX.out (more_of hb8))
            obtain ⟨va8, vc8, rfl, _⟩ := owns_shape ho8
            clear ho8 hb8
            go_wp2_with fail
            go_roundw
            case rel => exact ⟨2, Q ++ encU nb, by omega, by go_num, Lib.hid (by rw [← List.length_append]; exact HO8.out), Lib.hid (by rw [HQE.out, HL6.out]; simp [List.flatMap_cons, List.append_assoc]), HM8, Lib.hid (by rw [List.length_append]; have h1 := HQL.out; have h2 := encU_len nb (by omega); omega)⟩
            case measure => simp [intOf]
          · have hix := fun a b c d e f W => idx228_2 a b c d e f W
            go_wp2_with fail
            refine (HPU.out nn hsm.2.2.1).mono ?_
            rintro e w8 ⟨⟨v8, rfl, ho8⟩, hb8⟩
            have HO8 := Lib.hid (owns_base ho8 HSX.out)
            have HM8 := Lib.hid (more_trans HMX.out (more_of hb8))
            obtain ⟨va8, vc8, rfl, _⟩ := owns_shape ho8
            clear ho8 hb8
            go_wp2_with fail
            go_roundw
            case rel => exact ⟨3, Q ++ encU nn, by omega, by go_num, Lib.hid (by rw [← List.length_append]; exact HO8.out), Lib.hid (by rw [HQE.out, HL6.out]; simp [List.flatMap_cons, List.append_assoc]), HM8, Lib.hid (by rw [List.length_append]; have h1 := HQL.out; have h2 := encU_len nn (by omega); omega)⟩
            case measure => simp [intOf]
          · have hix := fun a b c d e f W => idx228_3 a b c d e f W
            go_wp2_with fail
            refine (HPU.out nt hsm.2.2.2.1).mono ?_
            rintro e w8 ⟨⟨v8, rfl, ho8⟩, hb8⟩
            have HO8 := Lib.hid (owns_base ho8 HSX.out)
            have HM8 := Lib.hid (more_trans HMX.out (more_of hb8))
            obtain ⟨va8, vc8, rfl, _⟩ := owns_shape ho8
            clear ho8 hb8
            go_wp2_with fail
            go_roundw
            case rel => exact ⟨4, Q ++ encU nt, by omega, by go_num, Lib.hid (by rw [← List.length_append]; exact HO8.out), Lib.hid (by rw [HQE.out, HL6.out]; simp [List.flatMap_cons, List.append_assoc]), HM8, Lib.hid (by rw [List.length_append]; have h1 := HQL.out; have h2 := encU_len nt (by omega); omega)⟩
            case measure => simp [intOf]
          · have hix := fun a b c d e f W => idx228_4 a b c d e f W
            go_wp2_with fail
            refine (HPU.out nd hsm.2.2.2.2.1).mono ?_
            rintro e w8 ⟨⟨v8, rfl, ho8⟩, hb8⟩
            have HO8 := Lib.hid (owns_base ho8 HSX.out)
            have HM8 := Lib.hid (more_trans HMX.out (more_of hb8))
            obtain ⟨va8, vc8, rfl, _⟩ := owns_shape ho8
            clear ho8 hb8
            go_wp2_with fail
            go_roundw
            case rel => exact ⟨5, Q ++ encU nd, by omega, by go_num, Lib.hid (by rw [← List.length_append]; exact HO8.out), Lib.hid (by rw [HQE.out, HL6.out]; simp [List.flatMap_cons, List.append_assoc]), HM8, Lib.hid (by rw [List.length_append]; have h1 := HQL.out; have h2 := encU_len nd (by omega); omega)⟩
            case measure => simp [intOf]
          · have hix := fun a b c d e f W => idx228_5 a b c d e f W
            go_wp2_with fail
            refine (HPU.out an hsm.2.2.2.2.2).mono ?_
            rintro e w8 ⟨⟨v8, rfl, ho8⟩, hb8⟩
            have HO8 := Lib.hid (owns_base ho8 HSX.out)
            have HM8 := Lib.hid (more_trans HMX.out (more_of hb8))
            obtain ⟨va8, vc8, rfl, _⟩ := owns_shape ho8
            clear ho8 hb8
            go_wp2_with fail
            go_roundw
            case rel => exact ⟨6, Q ++ encU an, by omega, by go_num, Lib.hid (by rw [← List.length_append]; exact HO8.out), Lib.hid (by rw [HQE.out, HL6.out]; simp [List.flatMap_cons, List.append_assoc]), HM8, Lib.hid (by rw [List.length_append]; have h1 := HQL.out; have h2 := encU_len an (by omega); omega)⟩
            case measure => simp [intOf]
        · have HM6E := Lib.hid (show m = 6 by omega)
          have hmd : decide ((m : Int) < 6) = false := decide_eq_false (by omega)
          have hQE := HQE.out
          rw [HM6E.out] at hQE
          have HQE := Lib.hid hQE; clear hQE
          clear hm6 hm
          have HXB8 := Lib.hid ((HMX.out.block (blk_lt HXB6.out)).trans HXB6.out)
          have x6 : wx.cell? ⟨XB, 6, none⟩ = some (.slice xa an xc) := cell_of_blk HXB8.out rfl
          have hbx := cell_lt x6
          have hal : an ≤ 4 := by have h1 := HKO.out.args; have h2 := HAN.out; omega
          have HAL := Lib.hid hal
          go_wp2_with fail
          clear x6 hbx
          go_loopw [3, 56] (fun p i wz => ∃ (y : Nat) (Z : List Int), y ≤ an ∧ i = .int .i64 y ∧ Hid (wz.ownsRow (N + 1) 5 1 p Z.length (bV Z)) ∧ Hid (Z = Q ++ (x.2.l.take y).flatMap fun v => encU (zz v)) ∧ Hid (More wx wz) ∧ Hid (Z.length ≤ Q.length + y * 10)) (fun _ i _ => an - (intOf i).toNat)
          case atStart => exact ⟨0, Q, by omega, rfl, HQ, Lib.hid (by simp), Lib.hid (World.grownBy.refl _ _), Lib.hid (by simp)⟩
          case round =>
            obtain ⟨y, Z, hy, rfl, HZ, HZE, HMY, HZL⟩ := hrel
            obtain ⟨wz, rfl⟩ : ∃ wz : World, wz = wr := ⟨_, rfl⟩
            obtain ⟨za, zc, rfl, _⟩ := owns_shape HZ.out
            have hal := HAL.out
            have HMZ := Lib.hid (more_trans HMWA.out (more_trans HMX.out HMY.out))
            by_cases hyt : y < an
            · have hyl : y < x.2.l.length := by rw [HAN.out]; exact hyt
              have hrw := HGA.out.row
              rw [HXV.out] at hrw
              obtain ⟨b2, off2, rfl, _, hc⟩ := hrw.atC nC_len hyl
              have HWZ := HMZ
              have e0 := HWZ.out.cell (hc 0 (.int .i64 x.2.l[y]) rfl)
              rw [Nat.add_zero, Nat.mul_one] at e0
              clear hc hrw
              have HT2 := Lib.hid (show x.2.l.take (y + 1) = x.2.l.take y ++ [x.2.l[y]] from List.take_succ_eq_append_getElem hyl)
              have HIN := Lib.hid (HIX.out _ (List.getElem_mem hyl))
              have HYT := Lib.hid hyt
              generalize x.2.l[y] = n at *
              clear hyl
              have hbe := cell_lt e0
              have HPU := Lib.hid (putInt103_any Z _ n wz HIN.out.1 HIN.out.2 (by have h1 := HZL.out; have h2 := HQL.out; have h3 := HOL.out; have h4 := HLN.out; have h5 := HM6E.out; omega) (ByG.of_owns HZ.out))
              have HSZ := Lib.hid (Nat.le_trans HS6.out (more_trans HMX.out HMY.out).size)
              go_wp2_with fail
              refine HPU.out.mono ?_
              rintro e w8 ⟨⟨v8, rfl, ho8⟩, hb8⟩
              have HO8 := Lib.hid (owns_base ho8 HSZ.out)
              have HM8 := Lib.hid (more_trans HMY.out (more_of hb8))
              obtain ⟨va8, vc8, rfl, _⟩ := owns_shape ho8
              clear ho8 hb8 e0 hbe
              have hyt9 := HYT.out
              go_wp2_with fail
              go_roundw
              case rel => exact ⟨y + 1, Z ++ encU (zz n), by omega, by go_num, Lib.hid (by rw [← List.length_append]; exact HO8.out), Lib.hid (by rw [HZE.out, HT2.out]; simp [List.flatMap_append, List.append_assoc]), HM8, Lib.hid (by rw [List.length_append]; have h1 := HZL.out; have h2 := encU_len _ (zz_lt HIN.out.1 HIN.out.2); omega)⟩
              case measure => have := HYT.out; simp [intOf]; omega
            · obtain rfl : y = an := by omega
              rw [List.take_of_length_le (by rw [HAN.out]; exact Nat.le_refl _)] at HZE
              have HZF := Lib.hid (show Z = O ++ encC x.2 by rw [HZE.out, HQE.out, HL6.out]; unfold encC; rw [HKD.out, HL6.out]; simp [List.append_assoc])
              have hlt9 := HLT.out
              have hln9 := HLN.out
              go_wp2_with fail
              go_roundw
              case rel => exact ⟨j + 1, Z, by omega, by go_num, HZ, Lib.hid (by rw [HZF.out, HOE.out, HT.out, List.flatMap_append, List.flatMap_singleton, List.append_assoc]), Lib.hid (show Below N w wz by rw [HN.out]; exact HMZ.out.below), Lib.hid (Nat.le_trans HS6.out (more_trans HMX.out HMY.out).size), Lib.hid (by rw [HZF.out, List.length_append]; have h1 := HCL.out; have h2 := HOL.out; omega)⟩
              case measure => have := HLT.out; simp [intOf]; omega
    · obtain rfl : j = ln := by omega
      rw [List.take_of_length_le (by rw [HLE.out]; exact Nat.le_refl _)] at HOE
      have HEE := Lib.hid (show O = encS (l.map (·.2)) by unfold encS; rw [List.length_map, HLE.out]; exact HOE.out)
      go_wp2_with fail
      go_ret
      rw [← HEE.out]
      exact ⟨⟨_, rfl, owns_base HO.out (Nat.le_succ _)⟩, HB.out⟩
end Go.Proofs.Ytemeppfikpafbaa

