/- Texts BuildC, Cho2, laid together. -/
import Derived.StillTailTactics
import Derived.Test.YtemeppfikpafbaaRb
import Derived.Test.YtemeppfikpafbaaRg
import Derived.Test.YtemeppfikpafbaaRk
/- The law's messages (39), keys (40). -/
namespace Go.Proofs.Ytemeppfikpafbaa
open Go.RowKit
theorem ord16_len (t : Bool) : (ord16 t).length = 16 := by cases t <;> rfl
theorem ord16_get (t : Bool) (j : Nat) (h : j < (ord16 t).length) : (ord16 t)[j] = if t then 15 - j else j := by
  rw [ord16_len] at h
  cases t
  · have : ∀ j, (h : j < 16) → up16[j]'(by simp [up16]; omega) = j := by decide
    exact this j h
  · have : ∀ j, (h : j < 16) → down16[j]'(by simp [down16]; omega) = 15 - j := by decide
    exact this j h
theorem pick_step (o : List Nat) (b j : Nat) (h : j < o.length) : pick (o.take (j + 1)) b = pick (o.take j) b ++ if b.testBit o[j] then [o[j]] else [] := by
  unfold pick
  rw [List.take_succ_eq_append_getElem h, List.filter_append]
  congr 1
  by_cases e : b.testBit o[j] = true <;> simp [e]
theorem bit_tmod (b k : Nat) : Int.tmod ((b : Int) / 2 ^ k) 2 = if b.testBit k = true then 1 else 0 := by
  have e : ((b : Int) / 2 ^ k) = ((b / 2 ^ k : Nat) : Int) := by simp
  rw [e, Int.tmod_eq_emod_of_nonneg (Int.natCast_nonneg _), Nat.testBit_eq_decide_div_mod_eq]
  have : b / 2 ^ k % 2 = 0 ∨ b / 2 ^ k % 2 = 1 := by omega
  rcases this with h | h
  · rw [if_neg (by simp [h])]; omega
  · rw [if_pos (by simp [h])]; omega
set_option maxRecDepth 10000 in
set_option maxHeartbeats 1000000 in
theorem messages_any (b : Nat) (t : Bool) (w : World) :
    Calls Try.prog 39 #[.int .u16 b, .bool t] w fun e w' => (∃ v, e = .returned v ∧ w'.ownsRow w.heap.size 54 3 v (pick (ord16 t) b).length (flatC mC ((pick (ord16 t) b).map msgI))) ∧ Below w.heap.size w w' := by
  obtain ⟨i0, hi0, hz0, hz1, hz2⟩ := info_parts info54
  obtain ⟨N, HN⟩ : ∃ N, Hid (N = w.heap.size) := ⟨_, Lib.hid rfl⟩
  rw [← HN.out]
  go_enter Try.func39, Try.ntmps39
  go_wp2_with fail
  go_loopw [5, 8] (fun v i wr => ∃ j : Nat, j ≤ 16 ∧ i = .int .i64 j ∧ Hid (Below N w wr) ∧ Hid (wr.ownsRow N 54 3 v (pick ((ord16 t).take j) b).length (flatC mC ((pick ((ord16 t).take j) b).map msgI)))) (fun _ i _ => 16 - (intOf i).toNat)
  case atStart => exact ⟨0, Nat.zero_le _, rfl, Lib.hid (Below.refl _ _), Lib.hid (World.ownsRow_nil _ _ _ _)⟩
  case round =>
    obtain ⟨j, hj, rfl, HB, HO⟩ := hrel
    obtain ⟨oa, ocap, rfl, _⟩ := owns_shape HO.out
    have HNW := Lib.hid (show N ≤ wr.heap.size by rw [HN.out]; exact HB.out.size)
    by_cases hlt : j < 16
    · have hlen : j < (ord16 t).length := by rw [ord16_len]; exact hlt
      have HPS := Lib.hid (pick_step (ord16 t) b j hlen)
      obtain ⟨k, HK⟩ : ∃ k, Hid ((ord16 t)[j] = k) := ⟨_, Lib.hid rfl⟩
      rw [HK.out] at HPS
      have HKE := Lib.hid (show k = if t then 15 - j else j by rw [← HK.out]; exact ord16_get t j hlen)
      have HPL := Lib.hid (show (pick ((ord16 t).take j) b).length ≤ 16 by unfold pick; exact Nat.le_trans (List.length_filter_le _ _) (by rw [List.length_take]; omega))
      have hlt' : (j : Int) < 16 := by omega
      generalize pick ((ord16 t).take j) b = l at *
      have hm1 : l.length + 1 ≤ maxLen := by unfold maxLen; have := HPL.out; omega
      have hm2 : (l.length + 1) * 24 ≤ 140737488355328 := by have := HPL.out; omega
      have HO1 := Lib.hid (fun o => owns_keep (w' := wr.alloc o) HO.out (fun z hz => Below.heap_alloc wr _ _ ((owns_shape HO.out).choose_spec.choose_spec.2 z hz).2))
      have HB1 := Lib.hid (fun o => HB.out.alloc HNW.out o)
      have hnd := HNW.out
      clear hlen HK
      cases t with
      | false =>
        have hkj : k = j := HKE.out
        subst hkj
        have hbt := bit_tmod b k
        have hk16 : k < 16 := hlt
        obtain ⟨p, hp⟩ : ∃ p : Nat, k % 3 = p := ⟨_, rfl⟩
        obtain ⟨q, hq⟩ : ∃ q : Nat, k / 3 = q := ⟨_, rfl⟩
        have h1 : (k : Int) % 3 = p := by omega
        have h2 : (k : Int) / 3 = q := by omega
        have HMI := Lib.hid (show mC (msgI k) = [.int .i64 p, .int .i64 q, .int .i64 7] by unfold mC msgI; simp only [hp, hq])
        clear hp hq
        by_cases hbit : b.testBit k = true
        · rw [if_pos hbit] at hbt HPS
          clear hbit
          go_wp2_with (at_builtin; refine wpList_append_own _ rfl _ _ 28 rfl N 54 i0 _ 3 24 Try.underlying28 hi0 hz0 hz1 hz2 rfl (by omega) (.slice oa l.length ocap) l.length (flatC mC (l.map msgI)) rfl (HO1.out _) ⟨wr.heap.size, 0, none⟩ 1 1 [.int .i64 p, .int .i64 q, .int .i64 7] rfl rfl (World.news_of_block (cs := #[.int .i64 p, .int .i64 q, .int .i64 7]) (t := 54) (fr := (0, 0)) (alloc_last _ _)) (by simp [Value.oneCell']) hm1 hm2 (by rw [World.size_alloc]; omega) ?_; intro v6 w6 hown6 hgrow6 _)
          have HB6 := Lib.hid ((HB1.out _).grown hgrow6 (by rw [World.size_alloc]; omega) (fun z hz => ((owns_shape HO.out).choose_spec.choose_spec.2 z hz).1))
          have HO6 := Lib.hid hown6
          clear hown6 hgrow6
          go_wp2_with fail
          go_roundw
          case rel => exact ⟨k + 1, by omega, by go_num, HB6, Lib.hid (by rw [HPS.out, List.map_append, List.length_append, List.map_singleton, flatC_push, HMI.out]; exact HO6.out)⟩
          case measure => simp [intOf]; omega
        · rw [if_neg hbit] at hbt HPS
          clear hbit
          go_wp2_with fail
          go_roundw
          case rel => exact ⟨k + 1, by omega, by go_num, HB, Lib.hid (by rw [HPS.out, List.append_nil]; exact HO.out)⟩
          case measure => simp [intOf]; omega
      | true =>
        have hke : k = 15 - j := HKE.out
        have hjk : (15 : Int) - j = k := by omega
        have hk16 : k < 16 := by omega
        have hbt := bit_tmod b k
        clear hke
        obtain ⟨p, hp⟩ : ∃ p : Nat, k % 3 = p := ⟨_, rfl⟩
        obtain ⟨q, hq⟩ : ∃ q : Nat, k / 3 = q := ⟨_, rfl⟩
        have h1 : (k : Int) % 3 = p := by omega
        have h2 : (k : Int) / 3 = q := by omega
        have HMI := Lib.hid (show mC (msgI k) = [.int .i64 p, .int .i64 q, .int .i64 7] by unfold mC msgI; simp only [hp, hq])
        clear hp hq
        by_cases hbit : b.testBit k = true
        · rw [if_pos hbit] at hbt HPS
          clear hbit
          go_wp2_with (at_builtin; refine wpList_append_own _ rfl _ _ 28 rfl N 54 i0 _ 3 24 Try.underlying28 hi0 hz0 hz1 hz2 rfl (by omega) (.slice oa l.length ocap) l.length (flatC mC (l.map msgI)) rfl (HO1.out _) ⟨wr.heap.size, 0, none⟩ 1 1 [.int .i64 p, .int .i64 q, .int .i64 7] rfl rfl (World.news_of_block (cs := #[.int .i64 p, .int .i64 q, .int .i64 7]) (t := 54) (fr := (0, 0)) (alloc_last _ _)) (by simp [Value.oneCell']) hm1 hm2 (by rw [World.size_alloc]; omega) ?_; intro v6 w6 hown6 hgrow6 _)
          have HB6 := Lib.hid ((HB1.out _).grown hgrow6 (by rw [World.size_alloc]; omega) (fun z hz => ((owns_shape HO.out).choose_spec.choose_spec.2 z hz).1))
          have HO6 := Lib.hid hown6
          clear hown6 hgrow6
          go_wp2_with fail
          go_roundw
          case rel => exact ⟨j + 1, by omega, by go_num, HB6, Lib.hid (by rw [HPS.out, List.map_append, List.length_append, List.map_singleton, flatC_push, HMI.out]; exact HO6.out)⟩
          case measure => simp [intOf]; omega
        · rw [if_neg hbit] at hbt HPS
          clear hbit
          go_wp2_with fail
          go_roundw
          case rel => exact ⟨j + 1, by omega, by go_num, HB, Lib.hid (by rw [HPS.out, List.append_nil]; exact HO.out)⟩
          case measure => simp [intOf]; omega
    · obtain rfl : j = 16 := by omega
      rw [List.take_of_length_le (by rw [ord16_len]; exact Nat.le_refl _)] at HO ⊢
      go_wp2_with fail
      go_ret
      exact ⟨⟨_, rfl, HO.out⟩, HB.out⟩
set_option maxRecDepth 10000 in
set_option maxHeartbeats 1000000 in
theorem keys_any (b : Nat) (t : Bool) (w : World) :
    Calls Try.prog 40 #[.int .u16 b, .bool t] w fun e w' => (∃ v, e = .returned v ∧ w'.ownsRow w.heap.size 48 4 v (pick (ord16 t) b).length (flatC kC ((pick (ord16 t) b).map keyI))) ∧ Below w.heap.size w w' := by
  obtain ⟨i0, hi0, hz0, hz1, hz2⟩ := info_parts info48
  obtain ⟨N, HN⟩ : ∃ N, Hid (N = w.heap.size) := ⟨_, Lib.hid rfl⟩
  rw [← HN.out]
  go_enter Try.func40, Try.ntmps40
  go_wp2_with fail
  go_loopw [5, 8] (fun v i wr => ∃ j : Nat, j ≤ 16 ∧ i = .int .i64 j ∧ Hid (Below N w wr) ∧ Hid (wr.ownsRow N 48 4 v (pick ((ord16 t).take j) b).length (flatC kC ((pick ((ord16 t).take j) b).map keyI)))) (fun _ i _ => 16 - (intOf i).toNat)
  case atStart => exact ⟨0, Nat.zero_le _, rfl, Lib.hid (Below.refl _ _), Lib.hid (World.ownsRow_nil _ _ _ _)⟩
  case round =>
    obtain ⟨j, hj, rfl, HB, HO⟩ := hrel
    obtain ⟨oa, ocap, rfl, _⟩ := owns_shape HO.out
    have HNW := Lib.hid (show N ≤ wr.heap.size by rw [HN.out]; exact HB.out.size)
    by_cases hlt : j < 16
    · have hlen : j < (ord16 t).length := by rw [ord16_len]; exact hlt
      have HPS := Lib.hid (pick_step (ord16 t) b j hlen)
      obtain ⟨k, HK⟩ : ∃ k, Hid ((ord16 t)[j] = k) := ⟨_, Lib.hid rfl⟩
      rw [HK.out] at HPS
      have HKE := Lib.hid (show k = if t then 15 - j else j by rw [← HK.out]; exact ord16_get t j hlen)
      have HPL := Lib.hid (show (pick ((ord16 t).take j) b).length ≤ 16 by unfold pick; exact Nat.le_trans (List.length_filter_le _ _) (by rw [List.length_take]; omega))
      have hlt' : (j : Int) < 16 := by omega
      generalize pick ((ord16 t).take j) b = l at *
      have hm1 : l.length + 1 ≤ maxLen := by unfold maxLen; have := HPL.out; omega
      have hm2 : (l.length + 1) * 32 ≤ 140737488355328 := by have := HPL.out; omega
      have HO1 := Lib.hid (fun o => owns_keep (w' := wr.alloc o) HO.out (fun z hz => Below.heap_alloc wr _ _ ((owns_shape HO.out).choose_spec.choose_spec.2 z hz).2))
      have HB1 := Lib.hid (fun o => HB.out.alloc HNW.out o)
      have hnd := HNW.out
      clear hlen HK
      cases t with
      | false =>
        have hkj : k = j := HKE.out
        subst hkj
        have hbt := bit_tmod b k
        have hk16 : k < 16 := hlt
        obtain ⟨p, hp⟩ : ∃ p : Nat, k % 4 = p := ⟨_, rfl⟩
        obtain ⟨q, hq⟩ : ∃ q : Nat, k / 4 = q := ⟨_, rfl⟩
        have HMI := Lib.hid (show kC (keyI k) = [.int .u8 4, .int .i64 p, .int .i64 0, .int .i64 q] by unfold kC keyI; simp only [hp, hq])
        have HKC := Lib.hid (show ∀ W, Calls Try.prog 54 #[.int .i64 k] W fun e w' => e = .returned (.agg #[.int .u8 4, .int .i64 p, .int .i64 0, .int .i64 q]) ∧ Lay W w' from fun W => by
          have := key54_any k W hk16
          rw [show kA (keyI k) = .agg #[.int .u8 4, .int .i64 p, .int .i64 0, .int .i64 q] by unfold kA keyI; simp only [hp, hq]] at this
          exact this)
        clear hp hq
        by_cases hbit : b.testBit k = true
        · rw [if_pos hbit] at hbt HPS
          clear hbit
          go_wp2_with fail
          refine (HKC.out _).mono ?_
          rintro e w5 ⟨rfl, hl5⟩
          have HO1 := Lib.hid (fun o => owns_keep (w' := w5.alloc o) HO.out (fun z hz => (Below.heap_alloc w5 _ _ (Nat.lt_of_lt_of_le ((owns_shape HO.out).choose_spec.choose_spec.2 z hz).2 hl5.1.size)).trans (hl5.1.block ((owns_shape HO.out).choose_spec.choose_spec.2 z hz).2)))
          have HB1 := Lib.hid (fun o => (HB.out.trans (hl5.1.below.mono HNW.out)).alloc (Nat.le_trans HNW.out hl5.1.size) o)
          have hnd := Nat.le_trans HNW.out hl5.1.size
          clear hl5
          go_wp2_with (at_builtin; refine wpList_append_own _ rfl _ _ 27 rfl N 48 i0 _ 4 32 Try.underlying27 hi0 hz0 hz1 hz2 rfl (by omega) (.slice oa l.length ocap) l.length (flatC kC (l.map keyI)) rfl (HO1.out _) ⟨w5.heap.size, 0, none⟩ 1 1 [.int .u8 4, .int .i64 p, .int .i64 0, .int .i64 q] rfl rfl (World.news_of_block (cs := #[.int .u8 4, .int .i64 p, .int .i64 0, .int .i64 q]) (t := 48) (fr := (0, 0)) (alloc_last _ _)) (by simp [Value.oneCell']) hm1 hm2 (by rw [World.size_alloc]; omega) ?_; intro v6 w6 hown6 hgrow6 _)
          have HB6 := Lib.hid ((HB1.out _).grown hgrow6 (by rw [World.size_alloc]; omega) (fun z hz => ((owns_shape HO.out).choose_spec.choose_spec.2 z hz).1))
          have HO6 := Lib.hid hown6
          clear hown6 hgrow6
          go_wp2_with fail
          go_roundw
          case rel => exact ⟨k + 1, by omega, by go_num, HB6, Lib.hid (by rw [HPS.out, List.map_append, List.length_append, List.map_singleton, flatC_push, HMI.out]; exact HO6.out)⟩
          case measure => simp [intOf]; omega
        · rw [if_neg hbit] at hbt HPS
          clear hbit
          go_wp2_with fail
          go_roundw
          case rel => exact ⟨k + 1, by omega, by go_num, HB, Lib.hid (by rw [HPS.out, List.append_nil]; exact HO.out)⟩
          case measure => simp [intOf]; omega
      | true =>
        have hke : k = 15 - j := HKE.out
        have hjk : (15 : Int) - j = k := by omega
        have hk16 : k < 16 := by omega
        have hbt := bit_tmod b k
        clear hke
        obtain ⟨p, hp⟩ : ∃ p : Nat, k % 4 = p := ⟨_, rfl⟩
        obtain ⟨q, hq⟩ : ∃ q : Nat, k / 4 = q := ⟨_, rfl⟩
        have HMI := Lib.hid (show kC (keyI k) = [.int .u8 4, .int .i64 p, .int .i64 0, .int .i64 q] by unfold kC keyI; simp only [hp, hq])
        have HKC := Lib.hid (show ∀ W, Calls Try.prog 54 #[.int .i64 k] W fun e w' => e = .returned (.agg #[.int .u8 4, .int .i64 p, .int .i64 0, .int .i64 q]) ∧ Lay W w' from fun W => by
          have := key54_any k W hk16
          rw [show kA (keyI k) = .agg #[.int .u8 4, .int .i64 p, .int .i64 0, .int .i64 q] by unfold kA keyI; simp only [hp, hq]] at this
          exact this)
        clear hp hq
        by_cases hbit : b.testBit k = true
        · rw [if_pos hbit] at hbt HPS
          clear hbit
          go_wp2_with fail
          refine (HKC.out _).mono ?_
          rintro e w5 ⟨rfl, hl5⟩
          have HO1 := Lib.hid (fun o => owns_keep (w' := w5.alloc o) HO.out (fun z hz => (Below.heap_alloc w5 _ _ (Nat.lt_of_lt_of_le ((owns_shape HO.out).choose_spec.choose_spec.2 z hz).2 hl5.1.size)).trans (hl5.1.block ((owns_shape HO.out).choose_spec.choose_spec.2 z hz).2)))
          have HB1 := Lib.hid (fun o => (HB.out.trans (hl5.1.below.mono HNW.out)).alloc (Nat.le_trans HNW.out hl5.1.size) o)
          have hnd := Nat.le_trans HNW.out hl5.1.size
          clear hl5
          go_wp2_with (at_builtin; refine wpList_append_own _ rfl _ _ 27 rfl N 48 i0 _ 4 32 Try.underlying27 hi0 hz0 hz1 hz2 rfl (by omega) (.slice oa l.length ocap) l.length (flatC kC (l.map keyI)) rfl (HO1.out _) ⟨w5.heap.size, 0, none⟩ 1 1 [.int .u8 4, .int .i64 p, .int .i64 0, .int .i64 q] rfl rfl (World.news_of_block (cs := #[.int .u8 4, .int .i64 p, .int .i64 0, .int .i64 q]) (t := 48) (fr := (0, 0)) (alloc_last _ _)) (by simp [Value.oneCell']) hm1 hm2 (by rw [World.size_alloc]; omega) ?_; intro v6 w6 hown6 hgrow6 _)
          have HB6 := Lib.hid ((HB1.out _).grown hgrow6 (by rw [World.size_alloc]; omega) (fun z hz => ((owns_shape HO.out).choose_spec.choose_spec.2 z hz).1))
          have HO6 := Lib.hid hown6
          clear hown6 hgrow6
          go_wp2_with fail
          go_roundw
          case rel => exact ⟨j + 1, by omega, by go_num, HB6, Lib.hid (by rw [HPS.out, List.map_append, List.length_append, List.map_singleton, flatC_push, HMI.out]; exact HO6.out)⟩
          case measure => simp [intOf]; omega
        · rw [if_neg hbit] at hbt HPS
          clear hbit
          go_wp2_with fail
          go_roundw
          case rel => exact ⟨j + 1, by omega, by go_num, HB, Lib.hid (by rw [HPS.out, List.append_nil]; exact HO.out)⟩
          case measure => simp [intOf]; omega
    · obtain rfl : j = 16 := by omega
      rw [List.take_of_length_le (by rw [ord16_len]; exact Nat.le_refl _)] at HO ⊢
      go_wp2_with fail
      go_ret
      exact ⟨⟨_, rfl, HO.out⟩, HB.out⟩
end Go.Proofs.Ytemeppfikpafbaa

/- cache.sorted (82) and its comparison (125); choice.New (86). -/
namespace Go.Proofs.Ytemeppfikpafbaa
open Go.RowKit Go.Sort Go.Shelf
def cmpM3 (x y : M3) : Int := orI [cmpI x.f y.f, cmpI x.t y.t, cmpI x.n y.n]
theorem cmpM_by : CmpBy cmpM3 ltM where
  neg x y := by
    unfold cmpM3 ltM
    rw [orI_neg, orI_neg, orI_neg, orI_nil, cmpI_neg, cmpI_neg, cmpI_neg, cmpI_zero, cmpI_zero]
    simp
  irrefl := ltM_irrefl
  trans _ _ _ := ltM_trans
  tri _ _ := ltM_tri
set_option maxRecDepth 100000 in
theorem cmpMsg_any : CmpSaid 125 mC cmpM3 := by
  intro x y w
  unfold mC
  have H := Lib.hid (show orI [cmpI x.f y.f, cmpI x.t y.t, cmpI x.n y.n] = cmpM3 x y from rfl)
  go_enter Try.func125, Try.ntmps125
  go_wp2_with fail
  obtain ⟨h1, h2, hm⟩ := boxed2 w (.cells #[.int .i64 x.f, .int .i64 x.t, .int .i64 x.n] 54) (.cells #[.int .i64 y.f, .int .i64 y.t, .int .i64 y.n] 54)
  generalize (w.alloc (.cells #[.int .i64 x.f, .int .i64 x.t, .int .i64 x.n] 54)).alloc (.cells #[.int .i64 y.f, .int .i64 y.t, .int .i64 y.n] 54) = w2 at *
  have a0 : w2.cell? ⟨w.heap.size, 0, none⟩ = some (.int .i64 x.f) := cell_of_blk h1 rfl
  have a1 : w2.cell? ⟨w.heap.size, 1, none⟩ = some (.int .i64 x.t) := cell_of_blk h1 rfl
  have a2 : w2.cell? ⟨w.heap.size, 2, none⟩ = some (.int .i64 x.n) := cell_of_blk h1 rfl
  have b0 : w2.cell? ⟨w.heap.size + 1, 0, none⟩ = some (.int .i64 y.f) := cell_of_blk h2 rfl
  have b1 : w2.cell? ⟨w.heap.size + 1, 1, none⟩ = some (.int .i64 y.t) := cell_of_blk h2 rfl
  have b2 : w2.cell? ⟨w.heap.size + 1, 2, none⟩ = some (.int .i64 y.n) := cell_of_blk h2 rfl
  have HM := Lib.hid hm
  clear h1 h2 hm
  have ha := cell_lt a0
  have hb := cell_lt b0
  refine wp_region_still_tail 15 (by kernel_rfl) (by kernel_rfl) ?_
  simp only [List.take_succ_cons, List.take_zero, List.drop_succ_cons, List.drop_zero]
  repeat still_step
  still_call (cmpN_any _ _ _)
  repeat still_step
  still_call (cmpN_any _ _ _)
  repeat still_step
  still_call (cmpN_any _ _ _)
  refine wpStill_nil ?_
  change wpList _ _ _ _ _ w2.drew
  generalize hw3 : w2.drew = w3
  have HM3 := Lib.hid (show Lay w w3 by rw [← hw3]; exact HM.out.trans (Lay.drew _))
  clear a0 a1 a2 b0 b1 b2 ha hb hw3
  go_wp2_with fail
  refine (or_any (fun _ => True) [cmpI x.f y.f, cmpI x.t y.t, cmpI x.n y.n] _ _ (show 3 ≤ 1000000 by decide) (row_lit trivial rfl)).mono ?_
  rw [H.out]
  rintro e w' ⟨rfl, hw'⟩
  rw [hw']
  clear hw' w'
  go_wp2_with fail
  go_ret
  exact ⟨rfl, HM3.out.trans (Lay.alloc _ _)⟩
theorem agg54 : ∀ w, (isAgg (Try.sortMsg_ren.t 24)).run Try.prog w = .ok true w := fun _ => by kernel_rfl
theorem size54 : ∀ w, (Go.sizeOf (Try.sortMsg_ren.t 24)).run Try.prog w = .ok 3 w := fun _ => by kernel_rfl
theorem call125 : ∀ args w, (callFunc 125 args).run Try.prog w = .ok (.enter 125 args) w := fun _ _ => by kernel_rfl
theorem mC_one' (x : M3) : ∀ v ∈ mC x, v.oneCell' = true := by intro v hv; simp [mC] at hv; rcases hv with rfl | rfl | rfl <;> rfl
def srtM (l : List M3) : List M3 := l.mergeSort fun x y => !(ltOf cmpM3) y x
theorem sortMsg {s : List M3} (v : Value) (B : Nat) (w : World) (hl : s.length < 1000000) (hown : w.ownsRow B 54 3 v s.length (flatC mC s)) :
    Calls Try.prog 124 #[v, .func (.func 125) #[] #[]] w fun e w' => e = .returned (.tuple #[]) ∧ w.grownBy w' v.ownBlock ∧ w'.ownsRow B 54 3 v s.length (flatC mC (srtM s)) :=
  sortF (ρ := Try.sortMsg_ren) Try.sortMsg agg54 size54 mC_len (by omega) mC_one' cmpM3 cmpM_by.swo cmpM_by.total 125 call125 cmpMsg_any s v B 54 w (by omega) hown
theorem agg113 : ∀ w, (isAgg (Try.sortChoice_ren.t 24)).run Try.prog w = .ok true w := fun _ => by kernel_rfl
theorem size113 : ∀ w, (Go.sizeOf (Try.sortChoice_ren.t 24)).run Try.prog w = .ok 7 w := fun _ => by kernel_rfl
theorem call127 : ∀ args w, (callFunc 127 args).run Try.prog w = .ok (.enter 127 args) w := fun _ _ => by kernel_rfl
theorem chC_one (x : Ch) : ∀ v ∈ chC x, v.oneCell' = true := by intro v hv; simp [chC] at hv; rcases hv with rfl | rfl | rfl | rfl | rfl | rfl | rfl <;> rfl
def srtK (s : List K4) : List K4 := s.mergeSort fun x y => !(ltOf cmpK4) y x
def withT (f : K4 → Int) (s : List K4) : List Ch := s.map fun k => ⟨k, f k⟩
theorem flat_withT (f : K4 → Int) (s : List K4) : flatC (fun k => chC ⟨k, f k⟩) s = flatC chC (withT f s) := by
  unfold flatC withT
  rw [List.flatMap_map]
theorem sortChoice (f : K4 → Int) {s : List K4} (v : Value) (B : Nat) (w : World) (hl : s.length < 1000000) (hown : w.ownsRow B 113 7 v s.length (flatC chC (withT f s))) :
    Calls Try.prog 126 #[v, .func (.func 127) #[] #[]] w fun e w' => e = .returned (.tuple #[]) ∧ w.grownBy w' v.ownBlock ∧ w'.ownsRow B 113 7 v s.length (flatC chC (withT f (srtK s))) := by
  rw [← flat_withT] at hown
  have := sortF (ρ := Try.sortChoice_ren) Try.sortChoice agg113 size113 (enc := fun k => chC ⟨k, f k⟩) (fun _ => chC_len _) (by omega) (fun x => chC_one _) cmpK4 cmpK_by.swo cmpK_by.total 127 call127 (newCmp_any f) s v B 113 w (by omega) hown
  rw [flat_withT] at this
  exact this
theorem srtM_len (l : List M3) : (srtM l).length = l.length := List.length_mergeSort _
theorem mem_srtM (l : List M3) (x : M3) : x ∈ srtM l ↔ x ∈ l := List.mem_mergeSort
set_option maxRecDepth 100000 in
set_option maxHeartbeats 1000000 in
theorem cloneM_own (l : List M3) (v : Value) (w : World) (hl : l.length ≤ 1000000) (h : Row anyB w 3 l.length v (flatC mC l)) (hn : NilA v) :
    Calls Try.prog 81 #[v] w fun e w' => (∃ v', e = .returned v' ∧ w'.ownsRow w.heap.size 54 3 v' l.length (flatC mC l)) ∧ Below w.heap.size w w' := by
  obtain ⟨a, cap, rfl, _⟩ := h.shape
  obtain ⟨i0, hi0, hz0, hz1, hz2⟩ := info_parts info54
  have hq := fun W => Lib.run_eql_slice_nil (P := Try.prog) W 28 54 a l.length cap 0 0 Try.underlying28
  cases a with
  | none =>
    obtain rfl := hn _ _ rfl
    have HR := Lib.hid h; clear h
    go_enter Try.func81, Try.ntmps81
    go_wp2_with fail
    go_ret
    have e0 : l = [] := by
      cases l with
      | nil => rfl
      | cons x r => obtain ⟨_, _, he, _⟩ := HR.out.at (by simp); cases he
    subst e0
    exact ⟨⟨_, rfl, World.ownsRow_nil _ _ _ _⟩, Below.refl _ _⟩
  | some ta =>
    have HR := Lib.hid h; clear h
    have HM := Lib.hid (more_alloc w (.cells #[] 54))
    have HN := Lib.hid (row_news mC_len (HR.out.below HM.out.below))
    have HO := Lib.hid (ownsRow_empty w 54 3)
    have HB := Lib.hid ((Below.refl w.heap.size w).alloc (Nat.le_refl _) (.cells #[] 54))
    have hm1 : 0 + l.length ≤ maxLen := by unfold maxLen; omega
    have hm2 : (0 + l.length) * 24 ≤ 140737488355328 := by omega
    go_enter Try.func81, Try.ntmps81
    go_wp2_with (at_builtin; refine wpList_append_own _ rfl _ _ 28 rfl w.heap.size 54 i0 _ 3 24 Try.underlying28 hi0 hz0 hz1 hz2 rfl (by omega) (.slice (some ⟨w.heap.size, 0, none⟩) 0 0) 0 [] rfl HO.out ta l.length cap (flatC mC l) rfl (flatC_len mC_len l) HN.out (mC_one l) hm1 hm2 (by rw [World.size_alloc]; omega) ?_; intro v6 w6 hown6 hgrow6 _)
    have HB6 := Lib.hid (HB.out.grown hgrow6 (by rw [World.size_alloc]; omega) (fun z hz => by simp [Value.ownBlock] at hz; omega))
    have HO6 := Lib.hid (show w6.ownsRow w.heap.size 54 3 v6 l.length (flatC mC l) by simpa using hown6)
    clear hown6 hgrow6
    go_wp2_with fail
    go_ret
    exact ⟨⟨_, rfl, HO6.out⟩, HB6.out⟩
set_option maxRecDepth 100000 in
theorem sorted_any (l : List M3) (v : Value) (w : World) (hl : l.length ≤ 100000) (h : Row anyB w 3 l.length v (flatC mC l)) (hn : NilA v) :
    Calls Try.prog 82 #[v] w fun e w' => (∃ v', e = .returned v' ∧ w'.ownsRow w.heap.size 54 3 v' l.length (flatC mC (srtM l))) ∧ Below w.heap.size w w' := by
  have HC := Lib.hid (cloneM_own l v w (by omega) h hn)
  have HL := Lib.hid hl
  clear h hn hl
  go_enter Try.func82, Try.ntmps82
  go_wp2_with fail
  refine HC.out.mono ?_
  rintro e w2 ⟨⟨v2, rfl, ho2⟩, hb2⟩
  have HO := Lib.hid ho2
  have HB := Lib.hid hb2
  clear ho2 hb2 HC
  obtain ⟨a, cap, rfl, _⟩ := owns_shape HO.out
  go_wp2_with fail
  refine (sortMsg _ _ w2 (by have := HL.out; omega) HO.out).mono ?_
  rintro e w3 ⟨rfl, hg, ho3⟩
  have HB3 := Lib.hid (HB.out.grown hg HB.out.size (fun z hz => ((owns_shape HO.out).choose_spec.choose_spec.2 z hz).1))
  have HO3 := Lib.hid ho3
  clear hg ho3
  go_wp2_with fail
  go_ret
  exact ⟨⟨_, rfl, HO3.out⟩, HB3.out⟩
end Go.Proofs.Ytemeppfikpafbaa

