/- Texts RPut, laid together. -/
import Derived.Test.YtemeppfikpafbaaGreatDoorBg
import Derived.Test.YtemeppfikpafbaaGreatDoorBl
/- rootcauseref01.Put (25), Zigzag (26), rootcauseref50.put (24). -/
namespace Go.Proofs.YtemeppfikpafbaaGreatDoor
open Go.RowKit
set_option maxRecDepth 100000 in
set_option maxHeartbeats 1000000 in
theorem put25_any (u : Nat) (w : World) (hu : u < 18446744073709551616) :
    Calls Tryz.prog 25 #[.int .u64 u] w fun e w' => (∃ x, e = .returned x ∧ w'.ownsRow w.heap.size 5 1 x (encU u).length (bV (encU u))) ∧ Below w.heap.size w w' := by
  obtain ⟨i0, hi0, hz0, hz1, hz2⟩ := info_parts infoB
  obtain ⟨B, HBE⟩ : ∃ B, Hid (B = w.heap.size) := ⟨_, Lib.hid rfl⟩
  rw [← HBE.out]
  have HO0 := Lib.hid (World.ownsRow_nil w B 5 1)
  go_enter Tryz.func25, Tryz.ntmps25
  go_wp2_with fail
  go_loopw [0, 3] (fun n p wr => ∃ (m : Nat) (O : List Int), n = .int .u64 m ∧ m ≤ u ∧ Hid (O ++ encU m = encU u) ∧ Hid (Below B w wr) ∧ Hid (wr.ownsRow B 5 1 p O.length (bV O))) (fun n _ _ => (intOf n).toNat)
  case atStart => exact ⟨u, [], rfl, Nat.le_refl _, Lib.hid rfl, Lib.hid (Below.refl _ _), HO0⟩
  case round =>
    obtain ⟨m, O, rfl, hmu, HE, HB, HOW⟩ := hrel
    obtain ⟨oa, ocap, rfl, hoo⟩ := owns_shape HOW.out
    have hbs : B ≤ wr.heap.size := by rw [HBE.out]; exact HB.out.size
    have hOl : O.length + 1 ≤ 12 := by
      have h1 := congrArg List.length HE.out
      rw [List.length_append] at h1
      have h2 := encU_len u hu
      have h3 := encU_pos m
      omega
    have hm1 : O.length + 1 ≤ maxLen := by unfold maxLen; omega
    have hm2 : (O.length + 1) * 1 ≤ 140737488355328 := by omega
    have hrem : Int.tmod (m : Int) 128 = ((m % 128 : Nat) : Int) := by rw [Int.tmod_eq_emod_of_nonneg (by omega)]; exact (Int.natCast_emod m 128).symm
    have hquo : Int.tdiv (m : Int) 128 = ((m / 128 : Nat) : Int) := by rw [Int.tdiv_eq_ediv_of_nonneg (by omega)]; exact (Int.natCast_ediv m 128).symm
    by_cases hm : m < 128
    · have t1 : decide (128 ≤ (m : Int)) = false := by simp; omega
      have HD := Lib.hid (show O ++ [(m : Int)] = encU u by rw [← HE.out, encU_lt hm])
      have hw8 : IntKind.u8.wrap (m : Int) = m := by rw [IntKind.wrap_u8]; omega
      go_wp2_with (at_builtin; refine wpList_append_lies _ rfl _ _ _ rfl B 5 i0 _ 1 1 Tryz.underlying26 hi0 hz0 hz1 hz2 rfl (by omega) (.slice oa O.length ocap) O.length (bV O) rfl (HOW.out.alloc _) ⟨wr.heap.size, 0, none⟩ 1 1 [.int .u8 m] rfl rfl (World.news_of_block (cs := #[.int .u8 m]) (t := 5) (fr := (0, 0)) (heap_alloc_new _ _)) (by simp [Value.oneCell']) (by omega) hm1 hm2 (Nat.le_trans hbs (by rw [World.size_alloc]; exact Nat.le_succ _)) _ rfl ?_; intro gg2 cap2 w2 hown2 hgrow2 hat2 hlt2)
      obtain ⟨hb3, ho3⟩ := byt_app HB.out (Nat.le_of_eq HBE.out) HOW.out hgrow2 hown2
      have HB3 := Lib.hid hb3
      have HO3 := Lib.hid ho3
      clear hown2 hgrow2 hat2 hlt2 hb3 ho3
      go_wp2_with fail
      go_ret
      exact ⟨⟨_, rfl, by rw [← HD.out]; exact HO3.out⟩, HB3.out⟩
    · have t1 : decide (128 ≤ (m : Int)) = true := by simp; omega
      have HD := Lib.hid (show (O ++ [((m % 128 + 128 : Nat) : Int)]) ++ encU (m / 128) = encU u by rw [← HE.out, encU_ge hm]; simp)
      have hw8 : IntKind.u8.wrap ((m % 128 : Nat) : Int) = ((m % 128 : Nat) : Int) := by rw [IntKind.wrap_u8]; omega
      have hw9 : IntKind.u8.wrap (((m % 128 : Nat) : Int) + 128) = ((m % 128 + 128 : Nat) : Int) := by rw [IntKind.wrap_u8]; omega
      go_wp2_with (at_builtin; refine wpList_append_lies _ rfl _ _ _ rfl B 5 i0 _ 1 1 Tryz.underlying26 hi0 hz0 hz1 hz2 rfl (by omega) (.slice oa O.length ocap) O.length (bV O) rfl (HOW.out.alloc _) ⟨wr.heap.size, 0, none⟩ 1 1 [.int .u8 ((m % 128 + 128 : Nat) : Int)] rfl rfl (World.news_of_block (cs := #[.int .u8 ((m % 128 + 128 : Nat) : Int)]) (t := 5) (fr := (0, 0)) (heap_alloc_new _ _)) (by simp [Value.oneCell']) (by omega) hm1 hm2 (Nat.le_trans hbs (by rw [World.size_alloc]; exact Nat.le_succ _)) _ rfl ?_; intro gg2 cap2 w2 hown2 hgrow2 hat2 hlt2)
      obtain ⟨hb3, ho3⟩ := byt_app HB.out (Nat.le_of_eq HBE.out) HOW.out hgrow2 hown2
      have HB3 := Lib.hid hb3
      have HO3 := Lib.hid ho3
      clear hown2 hgrow2 hat2 hlt2 hb3 ho3
      go_wp2_with fail
      go_roundw
      case rel => exact ⟨m / 128, O ++ [((m % 128 + 128 : Nat) : Int)], by go_num, by omega, HD, HB3, HO3⟩
      case measure => simp [intOf]; omega
theorem zz_neg' {v : Int} (h : v < 0) : (zz v : Int) = 2 * -(v + 1) + 1 := by
  unfold zz
  rw [if_pos h]
  omega
theorem zz_pos' {v : Int} (h : ¬ v < 0) : (zz v : Int) = 2 * v := by
  unfold zz
  rw [if_neg h]
  omega
theorem zz26_any (v : Int) (w : World) (hv : In64 v) : Calls Tryz.prog 26 #[.int .i64 v] w fun e w' => e = .returned (.int .u64 (zz v)) ∧ w' = w := by
  obtain ⟨h1, h2⟩ := hv
  by_cases hn : v < 0
  · have HZ := Lib.hid (zz_neg' hn)
    have hw1 : IntKind.i64.wrap (v + 1) = v + 1 := by rw [IntKind.wrap_i64]; omega
    have hw2 : IntKind.i64.wrap (-(v + 1)) = -(v + 1) := by rw [IntKind.wrap_i64]; omega
    have hw3 : IntKind.u64.wrap (-(v + 1)) = -(v + 1) := by rw [IntKind.wrap_u64]; omega
    have hw4 : IntKind.u64.wrap (2 * -(v + 1)) = 2 * -(v + 1) := by rw [IntKind.wrap_u64]; omega
    have hw5 : IntKind.u64.wrap (2 * -(v + 1) + 1) = 2 * -(v + 1) + 1 := by rw [IntKind.wrap_u64]; omega
    go_enter Tryz.func26, Tryz.ntmps26
    go_wp2_with fail
    go_ret
    exact ⟨by rw [HZ.out]; rfl, rfl⟩
  · have HZ := Lib.hid (zz_pos' hn)
    have hw3 : IntKind.u64.wrap v = v := by rw [IntKind.wrap_u64]; omega
    have hw4 : IntKind.u64.wrap (2 * v) = 2 * v := by rw [IntKind.wrap_u64]; omega
    go_enter Tryz.func26, Tryz.ntmps26
    go_wp2_with fail
    go_ret
    exact ⟨by rw [HZ.out]; rfl, rfl⟩
/-- A number behind bytes, in a row of its own or not. -/
theorem put24_any (l : List Int) (v : Value) (u B : Nat) (w : World) (hu : u < 9223372036854775808) (hl : l.length < 4294960000) (hB : B ≤ w.heap.size) (h : w.ownsRow B 5 1 v l.length (bV l)) :
    Calls Tryz.prog 24 #[v, .int .i64 u] w fun e w' => Below B w w' ∧ ∃ v', e = .returned v' ∧ w'.ownsRow B 5 1 v' (l ++ encU u).length (bV (l ++ encU u)) ∧ w.grownBy w' v.ownBlock := by
  obtain ⟨i0, hi0, hz0, hz1, hz2⟩ := info_parts infoB
  have HO := Lib.hid h; clear h
  have HC := Lib.hid (put25_any u w (by omega))
  obtain ⟨oa, ocap, rfl, _⟩ := owns_shape HO.out
  have hwu : IntKind.u64.wrap (u : Int) = u := by rw [IntKind.wrap_u64]; omega
  have HEL := Lib.hid (encU_len u (by omega))
  obtain ⟨E, HE⟩ : ∃ E, Hid (encU u = E) := ⟨_, Lib.hid rfl⟩
  rw [HE.out] at HC HEL ⊢
  obtain ⟨n, HN⟩ : ∃ n, Hid (l.length = n) := ⟨_, Lib.hid rfl⟩
  obtain ⟨en, HEN⟩ : ∃ n, Hid (E.length = n) := ⟨_, Lib.hid rfl⟩
  rw [HN.out] at HO hl ⊢
  rw [HEN.out] at HC HEL
  go_enter Tryz.func24, Tryz.ntmps24
  go_wp2_with fail
  refine HC.out.mono ?_
  rintro e w2 ⟨⟨x, rfl, hx⟩, hb2⟩
  have HX := Lib.hid hx
  have HM2 := Lib.hid (more_of hb2)
  obtain ⟨xa, xc, rfl, _⟩ := owns_shape hx
  clear hx hb2 HC
  have HO2 := Lib.hid (owns_keep HO.out (fun z hz => HM2.out.block (HO.out.lt z hz).2))
  have HXR := Lib.hid ((Row.of_owns HX.out).mono (S' := anyB) (fun _ _ => trivial) (fun _ _ _ _ h => h))
  have hel := HEL.out
  go_wp2_with (at_builtin; refine wpList_append_rowC rfl _ _ 26 rfl B 5 i0 _ 1 1 Tryz.underlying26 hi0 hz0 hz1 hz2 rfl (by omega) (.slice oa n ocap) n (bV l) rfl HO2.out (.slice xa en xc) en (bV E) rfl HXR.out (owns_nil HX.out) (bV_one E) (by unfold maxLen; omega) (by omega) (Nat.le_trans hB HM2.out.size) ?_; intro v3 w3 hown3 hgrow3)
  have HO3 := Lib.hid hown3
  have HG3 := Lib.hid hgrow3
  clear hown3 hgrow3
  go_wp2_with fail
  go_ret
  exact ⟨((HM2.out.below.mono hB).grown HG3.out (Nat.le_trans hB HM2.out.size) (fun z hz => (HO2.out.lt z hz).1)), _, rfl, by rw [List.length_append, HN.out, HEN.out, bV_append]; exact HO3.out, grown_any HM2.out HG3.out⟩
end Go.Proofs.YtemeppfikpafbaaGreatDoor

