/- The law's messages (39), keys (40). -/
import Derived.Test.YtemeppfikpafbaaCho1
namespace Go.Proofs.Ytemeppfikpafbaa
open Go.RowKit
theorem ord16_len (t : Bool) : (ord16 t).length = 16 := by cases t <;> rfl
theorem ord16_get (t : Bool) (j : Nat) (h : j < (ord16 t).length) : (ord16 t)[j] = if t then 15 - j else j := by
  rw [ord16_len] at h
  cases t
  · have : ∀ j, (h : j < 16) → up16[j]'(by simp [up16]; omega) = j := by decide
    exact this j h
  · have : ∀ j, (h : j < 16) → down16[j]'(by simp [down16]; omega) = 15 - j := by decide
    exact this j h
theorem pick_step (o : List Nat) (b j : Nat) (h : j < o.length) : pick (o.take (j + 1)) b = pick (o.take j) b ++ if b.testBit o[j] then [o[j]] else [] := by
  unfold pick
  rw [List.take_succ_eq_append_getElem h, List.filter_append]
  congr 1
  by_cases e : b.testBit o[j] = true <;> simp [e]
theorem bit_tmod (b k : Nat) : Int.tmod ((b : Int) / 2 ^ k) 2 = if b.testBit k = true then 1 else 0 := by
  have e : ((b : Int) / 2 ^ k) = ((b / 2 ^ k : Nat) : Int) := by simp
  rw [e, Int.tmod_eq_emod_of_nonneg (Int.natCast_nonneg _), Nat.testBit_eq_decide_div_mod_eq]
  have : b / 2 ^ k % 2 = 0 ∨ b / 2 ^ k % 2 = 1 := by omega
  rcases this with h | h
  · rw [if_neg (by simp [h])]; omega
  · rw [if_pos (by simp [h])]; omega
set_option maxRecDepth 10000 in
set_option maxHeartbeats 1000000 in
theorem messages_any (b : Nat) (t : Bool) (w : World) :
    Calls Try.prog 39 #[.int .u16 b, .bool t] w fun e w' => (∃ v, e = .returned v ∧ w'.ownsRow w.heap.size 54 3 v (pick (ord16 t) b).length (flatC mC ((pick (ord16 t) b).map msgI))) ∧ Below w.heap.size w w' := by
  obtain ⟨i0, hi0, hz0, hz1, hz2⟩ := info_parts info54
  obtain ⟨N, HN⟩ : ∃ N, Hid (N = w.heap.size) := ⟨_, Lib.hid rfl⟩
  rw [← HN.out]
  go_enter Try.func39, Try.ntmps39
  go_wp2_with fail
  go_loopw [5, 8] (fun v i wr => ∃ j : Nat, j ≤ 16 ∧ i = .int .i64 j ∧ Hid (Below N w wr) ∧ Hid (wr.ownsRow N 54 3 v (pick ((ord16 t).take j) b).length (flatC mC ((pick ((ord16 t).take j) b).map msgI)))) (fun _ i _ => 16 - (intOf i).toNat)
  case atStart => exact ⟨0, Nat.zero_le _, rfl, Lib.hid (Below.refl _ _), Lib.hid (World.ownsRow_nil _ _ _ _)⟩
  case round =>
    obtain ⟨j, hj, rfl, HB, HO⟩ := hrel
    obtain ⟨oa, ocap, rfl, _⟩ := owns_shape HO.out
    have HNW := Lib.hid (show N ≤ wr.heap.size by rw [HN.out]; exact HB.out.size)
    by_cases hlt : j < 16
    · have hlen : j < (ord16 t).length := by rw [ord16_len]; exact hlt
      have HPS := Lib.hid (pick_step (ord16 t) b j hlen)
      obtain ⟨k, HK⟩ : ∃ k, Hid ((ord16 t)[j] = k) := ⟨_, Lib.hid rfl⟩
      rw [HK.out] at HPS
      have HKE := Lib.hid (show k = if t then 15 - j else j by rw [← HK.out]; exact ord16_get t j hlen)
      have HPL := Lib.hid (show (pick ((ord16 t).take j) b).length ≤ 16 by unfold pick; exact Nat.le_trans (List.length_filter_le _ _) (by rw [List.length_take]; omega))
      have hlt' : (j : Int) < 16 := by omega
      generalize pick ((ord16 t).take j) b = l at *
      have hm1 : l.length + 1 ≤ maxLen := by unfold maxLen; have := HPL.out; omega
      have hm2 : (l.length + 1) * 24 ≤ 140737488355328 := by have := HPL.out; omega
      have HO1 := Lib.hid (fun o => owns_keep (w' := wr.alloc o) HO.out (fun z hz => Below.heap_alloc wr _ _ ((owns_shape HO.out).choose_spec.choose_spec.2 z hz).2))
      have HB1 := Lib.hid (fun o => HB.out.alloc HNW.out o)
      have hnd := HNW.out
      clear hlen HK
      cases t with
      | false =>
        have hkj : k = j := HKE.out
        subst hkj
        have hbt := bit_tmod b k
        have hk16 : k < 16 := hlt
        obtain ⟨p, hp⟩ : ∃ p : Nat, k % 3 = p := ⟨_, rfl⟩
        obtain ⟨q, hq⟩ : ∃ q : Nat, k / 3 = q := ⟨_, rfl⟩
        have h1 : (k : Int) % 3 = p := by omega
        have h2 : (k : Int) / 3 = q := by omega
        have HMI := Lib.hid (show mC (msgI k) = [.int .i64 p, .int .i64 q, .int .i64 7] by unfold mC msgI; simp only [hp, hq])
        clear hp hq
        by_cases hbit : b.testBit k = true
        · rw [if_pos hbit] at hbt HPS
          clear hbit
          go_wp2_with (at_builtin; refine wpList_append_own _ rfl _ _ 28 rfl N 54 i0 _ 3 24 Try.underlying28 hi0 hz0 hz1 hz2 rfl (by omega) (.slice oa l.length ocap) l.length (flatC mC (l.map msgI)) rfl (HO1.out _) ⟨wr.heap.size, 0, none⟩ 1 1 [.int .i64 p, .int .i64 q, .int .i64 7] rfl rfl (World.news_of_block (cs := #[.int .i64 p, .int .i64 q, .int .i64 7]) (t := 54) (fr := (0, 0)) (alloc_last _ _)) (by simp [Value.oneCell']) hm1 hm2 (by rw [World.size_alloc]; omega) ?_; intro v6 w6 hown6 hgrow6 _)
          have HB6 := Lib.hid ((HB1.out _).grown hgrow6 (by rw [World.size_alloc]; omega) (fun z hz => ((owns_shape HO.out).choose_spec.choose_spec.2 z hz).1))
          have HO6 := Lib.hid hown6
          clear hown6 hgrow6
          go_wp2_with fail
          go_roundw
          case rel => exact ⟨k + 1, by omega, by go_num, HB6, Lib.hid (by rw [HPS.out, List.map_append, List.length_append, List.map_singleton, flatC_push, HMI.out]; exact HO6.out)⟩
          case measure => simp [intOf]; omega
        · rw [if_neg hbit] at hbt HPS
          clear hbit
          go_wp2_with fail
          go_roundw
          case rel => exact ⟨k + 1, by omega, by go_num, HB, Lib.hid (by rw [HPS.out, List.append_nil]; exact HO.out)⟩
          case measure => simp [intOf]; omega
      | true =>
        have hke : k = 15 - j := HKE.out
        have hjk : (15 : Int) - j = k := by omega
        have hk16 : k < 16 := by omega
        have hbt := bit_tmod b k
        clear hke
        obtain ⟨p, hp⟩ : ∃ p : Nat, k % 3 = p := ⟨_, rfl⟩
        obtain ⟨q, hq⟩ : ∃ q : Nat, k / 3 = q := ⟨_, rfl⟩
        have h1 : (k : Int) % 3 = p := by omega
        have h2 : (k : Int) / 3 = q := by omega
        have HMI := Lib.hid (show mC (msgI k) = [.int .i64 p, .int .i64 q, .int .i64 7] by unfold mC msgI; simp only [hp, hq])
        clear hp hq
        by_cases hbit : b.testBit k = true
        · rw [if_pos hbit] at hbt HPS
          clear hbit
          go_wp2_with (at_builtin; refine wpList_append_own _ rfl _ _ 28 rfl N 54 i0 _ 3 24 Try.underlying28 hi0 hz0 hz1 hz2 rfl (by omega) (.slice oa l.length ocap) l.length (flatC mC (l.map msgI)) rfl (HO1.out _) ⟨wr.heap.size, 0, none⟩ 1 1 [.int .i64 p, .int .i64 q, .int .i64 7] rfl rfl (World.news_of_block (cs := #[.int .i64 p, .int .i64 q, .int .i64 7]) (t := 54) (fr := (0, 0)) (alloc_last _ _)) (by simp [Value.oneCell']) hm1 hm2 (by rw [World.size_alloc]; omega) ?_; intro v6 w6 hown6 hgrow6 _)
          have HB6 := Lib.hid ((HB1.out _).grown hgrow6 (by rw [World.size_alloc]; omega) (fun z hz => ((owns_shape HO.out).choose_spec.choose_spec.2 z hz).1))
          have HO6 := Lib.hid hown6
          clear hown6 hgrow6
          go_wp2_with fail
          go_roundw
          case rel => exact ⟨j + 1, by omega, by go_num, HB6, Lib.hid (by rw [HPS.out, List.map_append, List.length_append, List.map_singleton, flatC_push, HMI.out]; exact HO6.out)⟩
          case measure => simp [intOf]; omega
        · rw [if_neg hbit] at hbt HPS
          clear hbit
          go_wp2_with fail
          go_roundw
          case rel => exact ⟨j + 1, by omega, by go_num, HB, Lib.hid (by rw [HPS.out, List.append_nil]; exact HO.out)⟩
          case measure => simp [intOf]; omega
    · obtain rfl : j = 16 := by omega
      rw [List.take_of_length_le (by rw [ord16_len]; exact Nat.le_refl _)] at HO ⊢
      go_wp2_with fail
      go_ret
      exact ⟨⟨_, rfl, HO.out⟩, HB.out⟩
set_option maxRecDepth 10000 in
set_option maxHeartbeats 1000000 in
theorem keys_any (b : Nat) (t : Bool) (w : World) :
    Calls Try.prog 40 #[.int .u16 b, .bool t] w fun e w' => (∃ v, e = .returned v ∧ w'.ownsRow w.heap.size 48 4 v (pick (ord16 t) b).length (flatC kC ((pick (ord16 t) b).map keyI))) ∧ Below w.heap.size w w' := by
  obtain ⟨i0, hi0, hz0, hz1, hz2⟩ := info_parts info48
  obtain ⟨N, HN⟩ : ∃ N, Hid (N = w.heap.size) := ⟨_, Lib.hid rfl⟩
  rw [← HN.out]
  go_enter Try.func40, Try.ntmps40
  go_wp2_with fail
  go_loopw [5, 8] (fun v i wr => ∃ j : Nat, j ≤ 16 ∧ i = .int .i64 j ∧ Hid (Below N w wr) ∧ Hid (wr.ownsRow N 48 4 v (pick ((ord16 t).take j) b).length (flatC kC ((pick ((ord16 t).take j) b).map keyI)))) (fun _ i _ => 16 - (intOf i).toNat)
  case atStart => exact ⟨0, Nat.zero_le _, rfl, Lib.hid (Below.refl _ _), Lib.hid (World.ownsRow_nil _ _ _ _)⟩
  case round =>
    obtain ⟨j, hj, rfl, HB, HO⟩ := hrel
    obtain ⟨oa, ocap, rfl, _⟩ := owns_shape HO.out
    have HNW := Lib.hid (show N ≤ wr.heap.size by rw [HN.out]; exact HB.out.size)
    by_cases hlt : j < 16
    · have hlen : j < (ord16 t).length := by rw [ord16_len]; exact hlt
      have HPS := Lib.hid (pick_step (ord16 t) b j hlen)
      obtain ⟨k, HK⟩ : ∃ k, Hid ((ord16 t)[j] = k) := ⟨_, Lib.hid rfl⟩
      rw [HK.out] at HPS
      have HKE := Lib.hid (show k = if t then 15 - j else j by rw [← HK.out]; exact ord16_get t j hlen)
      have HPL := Lib.hid (show (pick ((ord16 t).take j) b).length ≤ 16 by unfold pick; exact Nat.le_trans (List.length_filter_le _ _) (by rw [List.length_take]; omega))
      have hlt' : (j : Int) < 16 := by omega
      generalize pick ((ord16 t).take j) b = l at *
      have hm1 : l.length + 1 ≤ maxLen := by unfold maxLen; have := HPL.out; omega
      have hm2 : (l.length + 1) * 32 ≤ 140737488355328 := by have := HPL.out; omega
      have HO1 := Lib.hid (fun o => owns_keep (w' := wr.alloc o) HO.out (fun z hz => Below.heap_alloc wr _ _ ((owns_shape HO.out).choose_spec.choose_spec.2 z hz).2))
      have HB1 := Lib.hid (fun o => HB.out.alloc HNW.out o)
      have hnd := HNW.out
      clear hlen HK
      cases t with
      | false =>
        have hkj : k = j := HKE.out
        subst hkj
        have hbt := bit_tmod b k
        have hk16 : k < 16 := hlt
        obtain ⟨p, hp⟩ : ∃ p : Nat, k % 4 = p := ⟨_, rfl⟩
        obtain ⟨q, hq⟩ : ∃ q : Nat, k / 4 = q := ⟨_, rfl⟩
        have HMI := Lib.hid (show kC (keyI k) = [.int .u8 4, .int .i64 p, .int .i64 0, .int .i64 q] by unfold kC keyI; simp only [hp, hq])
        have HKC := Lib.hid (show ∀ W, Calls Try.prog 54 #[.int .i64 k] W fun e w' => e = .returned (.agg #[.int .u8 4, .int .i64 p, .int .i64 0, .int .i64 q]) ∧ Lay W w' from fun W => by
          have := key54_any k W hk16
          rw [show kA (keyI k) = .agg #[.int .u8 4, .int .i64 p, .int .i64 0, .int .i64 q] by unfold kA keyI; simp only [hp, hq]] at this
          exact this)
        clear hp hq
        by_cases hbit : b.testBit k = true
        · rw [if_pos hbit] at hbt HPS
          clear hbit
          go_wp2_with fail
          refine (HKC.out _).mono ?_
          rintro e w5 ⟨rfl, hl5⟩
          have HO1 := Lib.hid (fun o => owns_keep (w' := w5.alloc o) HO.out (fun z hz => (Below.heap_alloc w5 _ _ (Nat.lt_of_lt_of_le ((owns_shape HO.out).choose_spec.choose_spec.2 z hz).2 hl5.1.size)).trans (hl5.1.block ((owns_shape HO.out).choose_spec.choose_spec.2 z hz).2)))
          have HB1 := Lib.hid (fun o => (HB.out.trans (hl5.1.below.mono HNW.out)).alloc (Nat.le_trans HNW.out hl5.1.size) o)
          have hnd := Nat.le_trans HNW.out hl5.1.size
          clear hl5
          go_wp2_with (at_builtin; refine wpList_append_own _ rfl _ _ 27 rfl N 48 i0 _ 4 32 Try.underlying27 hi0 hz0 hz1 hz2 rfl (by omega) (.slice oa l.length ocap) l.length (flatC kC (l.map keyI)) rfl (HO1.out _) ⟨w5.heap.size, 0, none⟩ 1 1 [.int .u8 4, .int .i64 p, .int .i64 0, .int .i64 q] rfl rfl (World.news_of_block (cs := #[.int .u8 4, .int .i64 p, .int .i64 0, .int .i64 q]) (t := 48) (fr := (0, 0)) (alloc_last _ _)) (by simp [Value.oneCell']) hm1 hm2 (by rw [World.size_alloc]; omega) ?_; intro v6 w6 hown6 hgrow6 _)
          have HB6 := Lib.hid ((HB1.out _).grown hgrow6 (by rw [World.size_alloc]; omega) (fun z hz => ((owns_shape HO.out).choose_spec.choose_spec.2 z hz).1))
          have HO6 := Lib.hid hown6
          clear hown6 hgrow6
          go_wp2_with fail
          go_roundw
          case rel => exact ⟨k + 1, by omega, by go_num, HB6, Lib.hid (by rw [HPS.out, List.map_append, List.length_append, List.map_singleton, flatC_push, HMI.out]; exact HO6.out)⟩
          case measure => simp [intOf]; omega
        · rw [if_neg hbit] at hbt HPS
          clear hbit
          go_wp2_with fail
          go_roundw
          case rel => exact ⟨k + 1, by omega, by go_num, HB, Lib.hid (by rw [HPS.out, List.append_nil]; exact HO.out)⟩
          case measure => simp [intOf]; omega
      | true =>
        have hke : k = 15 - j := HKE.out
        have hjk : (15 : Int) - j = k := by omega
        have hk16 : k < 16 := by omega
        have hbt := bit_tmod b k
        clear hke
        obtain ⟨p, hp⟩ : ∃ p : Nat, k % 4 = p := ⟨_, rfl⟩
        obtain ⟨q, hq⟩ : ∃ q : Nat, k / 4 = q := ⟨_, rfl⟩
        have HMI := Lib.hid (show kC (keyI k) = [.int .u8 4, .int .i64 p, .int .i64 0, .int .i64 q] by unfold kC keyI; simp only [hp, hq])
        have HKC := Lib.hid (show ∀ W, Calls Try.prog 54 #[.int .i64 k] W fun e w' => e = .returned (.agg #[.int .u8 4, .int .i64 p, .int .i64 0, .int .i64 q]) ∧ Lay W w' from fun W => by
          have := key54_any k W hk16
          rw [show kA (keyI k) = .agg #[.int .u8 4, .int .i64 p, .int .i64 0, .int .i64 q] by unfold kA keyI; simp only [hp, hq]] at this
          exact this)
        clear hp hq
        by_cases hbit : b.testBit k = true
        · rw [if_pos hbit] at hbt HPS
          clear hbit
          go_wp2_with fail
          refine (HKC.out _).mono ?_
          rintro e w5 ⟨rfl, hl5⟩
          have HO1 := Lib.hid (fun o => owns_keep (w' := w5.alloc o) HO.out (fun z hz => (Below.heap_alloc w5 _ _ (Nat.lt_of_lt_of_le ((owns_shape HO.out).choose_spec.choose_spec.2 z hz).2 hl5.1.size)).trans (hl5.1.block ((owns_shape HO.out).choose_spec.choose_spec.2 z hz).2)))
          have HB1 := Lib.hid (fun o => (HB.out.trans (hl5.1.below.mono HNW.out)).alloc (Nat.le_trans HNW.out hl5.1.size) o)
          have hnd := Nat.le_trans HNW.out hl5.1.size
          clear hl5
          go_wp2_with (at_builtin; refine wpList_append_own _ rfl _ _ 27 rfl N 48 i0 _ 4 32 Try.underlying27 hi0 hz0 hz1 hz2 rfl (by omega) (.slice oa l.length ocap) l.length (flatC kC (l.map keyI)) rfl (HO1.out _) ⟨w5.heap.size, 0, none⟩ 1 1 [.int .u8 4, .int .i64 p, .int .i64 0, .int .i64 q] rfl rfl (World.news_of_block (cs := #[.int .u8 4, .int .i64 p, .int .i64 0, .int .i64 q]) (t := 48) (fr := (0, 0)) (alloc_last _ _)) (by simp [Value.oneCell']) hm1 hm2 (by rw [World.size_alloc]; omega) ?_; intro v6 w6 hown6 hgrow6 _)
          have HB6 := Lib.hid ((HB1.out _).grown hgrow6 (by rw [World.size_alloc]; omega) (fun z hz => ((owns_shape HO.out).choose_spec.choose_spec.2 z hz).1))
          have HO6 := Lib.hid hown6
          clear hown6 hgrow6
          go_wp2_with fail
          go_roundw
          case rel => exact ⟨j + 1, by omega, by go_num, HB6, Lib.hid (by rw [HPS.out, List.map_append, List.length_append, List.map_singleton, flatC_push, HMI.out]; exact HO6.out)⟩
          case measure => simp [intOf]; omega
        · rw [if_neg hbit] at hbt HPS
          clear hbit
          go_wp2_with fail
          go_roundw
          case rel => exact ⟨j + 1, by omega, by go_num, HB, Lib.hid (by rw [HPS.out, List.append_nil]; exact HO.out)⟩
          case measure => simp [intOf]; omega
    · obtain rfl : j = 16 := by omega
      rw [List.take_of_length_le (by rw [ord16_len]; exact Nat.le_refl _)] at HO ⊢
      go_wp2_with fail
      go_ret
      exact ⟨⟨_, rfl, HO.out⟩, HB.out⟩
end Go.Proofs.Ytemeppfikpafbaa
