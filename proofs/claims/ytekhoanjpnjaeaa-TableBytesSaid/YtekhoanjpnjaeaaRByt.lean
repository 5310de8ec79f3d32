/- ref01.Put (86), Zigzag (87). -/
import Derived.Test.YtekhoanjpnjaeaaTByt
namespace Go.Proofs.Ytekhoanjpnjaeaa
open Go.RowKit

theorem wrap_byt (m : Nat) : (m : Int) % 128 + 128 = ((m % 128 + 128 : Nat) : Int) := by
  omega
set_option maxRecDepth 100000 in
set_option maxHeartbeats 400000 in
theorem rputn_any (u : Nat) (w : World) (hu : u < 18446744073709551616) :
    Calls Try.prog 86 #[.int .u64 u] w fun e w' => Below w.heap.size w w' ∧ ∃ v', e = .returned v' ∧ w'.ownsRow w.heap.size 5 1 v' (encU u).length (bV (encU u)) := by
  obtain ⟨i0, hi0, hz0, hz1, hz2⟩ := info_parts Try.info5
  go_enter Try.func86, Try.ntmps86
  go_wp2_with fail
  go_loopw [0, 3] (fun n p wr => ∃ (m : Nat) (O : List Int), n = .int .u64 m ∧ m ≤ u ∧ Hid (O ++ encU m = encU u) ∧ Hid (Below w.heap.size w wr) ∧ Hid (wr.ownsRow w.heap.size 5 1 p O.length (bV O))) (fun n _ _ => (intOf n).toNat)
  case atStart => exact ⟨u, [], rfl, Nat.le_refl _, Lib.hid rfl, Lib.hid (Below.refl _ _), Lib.hid (World.ownsRow_nil _ _ _ _)⟩
  case round =>
    obtain ⟨m, O, rfl, hmu, HE, HB, HOW⟩ := hrel
    obtain ⟨oa, ocap, rfl, hoo⟩ := owns_shape HOW.out
    have hbs : w.heap.size ≤ wr.heap.size := HB.out.size
    have hOl : O.length + 1 ≤ 12 := by
      have h1 := congrArg List.length HE.out
      rw [List.length_append] at h1
      have h2 := encU_len u hu
      have h3 := encU_pos m
      omega
    have hm1 : O.length + 1 ≤ maxLen := by unfold maxLen; omega
    have hm2 : (O.length + 1) * 1 ≤ 140737488355328 := by omega
    by_cases hm : m < 128
    · have t1 : decide (128 ≤ (m : Int)) = false := by simp; omega
      have HD := Lib.hid (show O ++ [(m : Int)] = encU u by rw [← HE.out, encU_lt hm])
      go_wp2_with (at_builtin; refine wpList_append_lies _ rfl _ _ _ rfl w.heap.size 5 i0 _ 1 1 Try.underlying80 hi0 hz0 hz1 hz2 rfl (by omega) (.slice oa O.length ocap) O.length (bV O) rfl (HOW.out.alloc _) ⟨wr.heap.size, 0, none⟩ 1 1 [.int .u8 m] rfl rfl (World.news_of_block (cs := #[.int .u8 m]) (t := 5) (fr := (0, 0)) (heap_alloc_new _ _)) (by simp [Value.oneCell']) (by omega) hm1 hm2 (Nat.le_trans hbs (by rw [World.size_alloc]; exact Nat.le_succ _)) _ rfl ?_; intro gg2 cap2 w2 hown2 hgrow2 hat2 hlt2)
      obtain ⟨hb3, ho3⟩ := byt_app HB.out (Nat.le_refl _) HOW.out hgrow2 hown2
      have HB3 := Lib.hid hb3
      have HO3 := Lib.hid ho3
      clear hown2 hgrow2 hat2 hlt2 hb3 ho3
      go_wp2_with fail
      go_ret
      exact ⟨HB3.out, _, rfl, by rw [← HD.out]; exact HO3.out⟩
    · have t1 : decide (128 ≤ (m : Int)) = true := by simp; omega
      have HD := Lib.hid (show (O ++ [(m : Int) % 128 + 128]) ++ encU (m / 128) = encU u by rw [← HE.out, encU_ge hm, wrap_byt]; simp)
      go_wp2_with (at_builtin; refine wpList_append_lies _ rfl _ _ _ rfl w.heap.size 5 i0 _ 1 1 Try.underlying80 hi0 hz0 hz1 hz2 rfl (by omega) (.slice oa O.length ocap) O.length (bV O) rfl (HOW.out.alloc _) ⟨wr.heap.size, 0, none⟩ 1 1 [.int .u8 ((m : Int) % 128 + 128)] rfl rfl (World.news_of_block (cs := #[.int .u8 ((m : Int) % 128 + 128)]) (t := 5) (fr := (0, 0)) (heap_alloc_new _ _)) (by simp [Value.oneCell']) (by omega) hm1 hm2 (Nat.le_trans hbs (by rw [World.size_alloc]; exact Nat.le_succ _)) _ rfl ?_; intro gg2 cap2 w2 hown2 hgrow2 hat2 hlt2)
      obtain ⟨hb3, ho3⟩ := byt_app HB.out (Nat.le_refl _) HOW.out hgrow2 hown2
      have HB3 := Lib.hid hb3
      have HO3 := Lib.hid ho3
      clear hown2 hgrow2 hat2 hlt2 hb3 ho3
      go_wp2_with fail
      go_roundw
      case rel => exact ⟨m / 128, O ++ [(m : Int) % 128 + 128], by go_num, by omega, HD, HB3, HO3⟩
      case measure => simp [intOf]; omega
theorem rput_nil (u : Nat) (w : World) (hu : u < 18446744073709551616) : Calls Try.prog 86 #[.int .u64 u] w fun e w' => Below w.heap.size w w' ∧ ∃ g cap, e = .returned (.slice (some ⟨g, 0, none⟩) (encU u).length cap) ∧ w.heap.size ≤ g ∧ w'.ownsRow w.heap.size 5 1 (.slice (some ⟨g, 0, none⟩) (encU u).length cap) (encU u).length (bV (encU u)) := by
  refine (rputn_any u w hu).mono ?_
  rintro e w' ⟨hb, v', rfl, ho⟩
  obtain ⟨g, cap, rfl, hg⟩ := owns_some ho (encU_pos _)
  exact ⟨hb, g, cap, rfl, hg.1, ho⟩
set_option maxHeartbeats 400000 in
theorem rzz_any (x : Int) (w : World) (h : I64 x) : Calls Try.prog 87 #[.int .i64 x] w fun e w' => e = .returned (.int .u64 (zz x)) ∧ w' = w := by
  obtain ⟨h1, h2⟩ := h
  by_cases hx : x < 0
  · have t1 : decide (x < 0) = true := by simp [hx]
    have HZ := Lib.hid (show 2 * -(x + 1) + 1 = (zz x : Int) by
      have hz : zz x = (-2 * x - 1).toNat := by unfold zz; rw [if_pos hx]
      omega)
    go_enter Try.func87, Try.ntmps87
    go_wp2_with fail
    go_ret
    refine ⟨?_, rfl⟩
    rw [← HZ.out]
    rfl
  · have t1 : decide (x < 0) = false := by simpa using hx
    have hx0 : 0 ≤ x := by omega
    have HZ := Lib.hid (show 2 * x = (zz x : Int) by
      have hz : zz x = (2 * x).toNat := by unfold zz; rw [if_neg hx]
      omega)
    go_enter Try.func87, Try.ntmps87
    go_wp2_with fail
    go_ret
    refine ⟨?_, rfl⟩
    rw [← HZ.out]
    rfl
end Go.Proofs.Ytekhoanjpnjaeaa
