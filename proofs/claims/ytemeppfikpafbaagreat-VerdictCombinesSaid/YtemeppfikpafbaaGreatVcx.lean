/- Texts RefV, RefC, laid together. -/
import Derived.Deep.QuietTactic
import Derived.BigQuiet
import Derived.Deep.CutBlock
import Derived.Test.YtemeppfikpafbaaGreatVcw
/- The reference's count (28), before (29) and Combine (13). -/
namespace Go.Proofs.YtemeppfikpafbaaGreat
open Go.RowKit
/-- How many lists hold a number. -/
def cntN (ns : List (List Nat)) (x : Nat) : Nat := (ns.filter fun l => decide (x ∈ l)).length
theorem cntN_take (ns : List (List Nat)) (x j : Nat) (h : j < ns.length) : cntN (ns.take (j + 1)) x = cntN (ns.take j) x + if decide (x ∈ ns[j]) then 1 else 0 := by
  unfold cntN
  rw [List.take_succ_eq_append_getElem h, List.filter_append, List.length_append, List.filter_cons]
  cases decide (x ∈ ns[j]) <;> simp
theorem cntN_le (ns : List (List Nat)) (x : Nat) : cntN ns x ≤ ns.length := List.length_filter_le _ _
theorem dec_push (l : List Nat) (x y : Nat) : decide (x ∈ l ++ [y]) = (decide (x ∈ l) || decide (x = y)) := by
  by_cases h1 : x ∈ l <;> by_cases h2 : x = y <;> simp [h1, h2]
set_option maxRecDepth 100000 in
set_option maxHeartbeats 2000000 in
theorem count28_any (I : List NV) (v : Value) (x : Nat) (w : World) (hl : I.length ≤ 6) (_hx : x ≤ 1000) (h : Row anyB w 1 I.length v (flatC lN I)) (hin : ∀ p ∈ I, Row anyB w 1 p.2.length p.1 (flatC nC p.2)) (hln : ∀ p ∈ I, p.2.length ≤ 1000) :
    Calls Tryz.prog 28 #[v, .int .i64 x] w fun e w' => e = .returned (.int .i64 (cntN (I.map (·.2)) x)) ∧ w' = w := by
  obtain ⟨a, cap, rfl, _⟩ := h.shape
  have HR := Lib.hid h
  have HIN := Lib.hid hin
  have HLN := Lib.hid hln
  clear h hin hln
  go_enter Tryz.func28, Tryz.ntmps28
  go_wp2_with fail
  go_loopw [5, 13] (fun n i wr => ∃ j : Nat, j ≤ I.length ∧ i = .int .i64 j ∧ n = .int .i64 (cntN ((I.map (·.2)).take j) x) ∧ wr = w) (fun _ i _ => I.length - (intOf i).toNat)
  case atStart => exact ⟨0, Nat.zero_le _, rfl, rfl, rfl⟩
  case round =>
    obtain ⟨j, hj, rfl, rfl, rfl⟩ := hrel
    by_cases hlt : j < I.length
    · obtain ⟨b, off, rfl, _, hc⟩ := HR.out.atC lN_len hlt
      have g0 := hc 0 I[j].1 rfl
      rw [Nat.add_zero, Nat.mul_one] at g0
      clear hc
      have HCT := Lib.hid (show cntN ((I.map (·.2)).take (j + 1)) x = cntN ((I.map (·.2)).take j) x + if decide (x ∈ I[j].2) then 1 else 0 by
        have := cntN_take (I.map (·.2)) x j (by rw [List.length_map]; exact hlt)
        rw [List.getElem_map] at this
        exact this)
      have HRI := Lib.hid (HIN.out _ (List.getElem_mem hlt))
      have hpl := HLN.out _ (List.getElem_mem hlt)
      have HLE := Lib.hid (show cntN ((I.map (·.2)).take j) x ≤ 6 by
        have := cntN_le ((I.map (·.2)).take j) x
        rw [List.length_take, List.length_map] at this; omega)
      have HLT := Lib.hid hlt
      generalize cntN ((I.map (·.2)).take j) x = c at *
      generalize I[j] = p at *
      obtain ⟨pv, pl⟩ := p
      dsimp only at *
      obtain ⟨pa, pc, rfl, _⟩ := HRI.out.shape
      have hbg := cell_lt g0
      obtain ⟨wo, rfl⟩ : ∃ wo : World, wo = wr := ⟨_, rfl⟩
      go_wp2_with fail
      go_loopw [8, 19] (fun q i wx => ∃ k : Nat, k ≤ pl.length ∧ i = .int .i64 k ∧ q = .bool (decide (x ∈ pl.take k)) ∧ wx = wo) (fun _ i _ => pl.length - (intOf i).toNat)
      case atStart => exact ⟨0, Nat.zero_le _, rfl, by simp, rfl⟩
      case round =>
        obtain ⟨k, hk, rfl, rfl, rfl⟩ := hrel
        by_cases hlt2 : k < pl.length
        · obtain ⟨b2, off2, rfl, _, hc⟩ := HRI.out.atC nC_len hlt2
          have e0 := hc 0 (.int .i64 (pl[k] : Nat)) rfl
          rw [Nat.add_zero, Nat.mul_one] at e0
          clear hc
          have HTK := Lib.hid (show decide (x ∈ pl.take (k + 1)) = (decide (x ∈ pl.take k) || decide (x = pl[k])) by
            rw [List.take_succ_eq_append_getElem hlt2]; exact dec_push _ _ _)
          have HLT2 := Lib.hid hlt2
          generalize pl[k] = y at *
          have hbe := cell_lt e0
          generalize decide (x ∈ pl.take k) = q at *
          cases q with
          | true =>
            go_wp2_with fail
            go_roundw
            case rel => exact ⟨k + 1, by have := HLT2.out; omega, by go_num, by rw [HTK.out]; simp, by trivial⟩
            case measure => have := HLT2.out; simp [intOf]; omega
          | false =>
            by_cases hxy : x = y
            · have HT2 := Lib.hid (show decide (x ∈ pl.take (k + 1)) = true by rw [HTK.out]; simp [hxy])
              subst hxy
              go_wp2_with fail
              go_roundw
              case rel => exact ⟨k + 1, by have := HLT2.out; omega, by go_num, by rw [HT2.out], by trivial⟩
              case measure => have := HLT2.out; simp [intOf]; omega
            · have HT2 := Lib.hid (show decide (x ∈ pl.take (k + 1)) = false by rw [HTK.out]; simp [hxy])
              have hxz : ((x : Int) == (y : Int)) = false := beq_eq_false_iff_ne.2 (by omega)
              clear hxy
              go_wp2_with fail
              go_roundw
              case rel => exact ⟨k + 1, by have := HLT2.out; omega, by go_num, by rw [HT2.out], by trivial⟩
              case measure => have := HLT2.out; simp [intOf]; omega
        · obtain rfl : k = pl.length := by omega
          rw [List.take_of_length_le (Nat.le_refl _)]
          have hlt9 := HLT.out
          have hle9 := HLE.out
          generalize decide (x ∈ pl) = q at *
          cases q with
          | true =>
            go_wp2_with fail
            go_roundw
            case rel => exact ⟨j + 1, by have := HLT.out; omega, by go_num, by rw [HCT.out]; simp, by trivial⟩
            case measure => have := HLT.out; simp [intOf]; omega
          | false =>
            go_wp2_with fail
            go_roundw
            case rel => exact ⟨j + 1, by have := HLT.out; omega, by go_num, by rw [HCT.out]; simp, by trivial⟩
            case measure => have := HLT.out; simp [intOf]; omega
    · obtain rfl : j = I.length := by omega
      rw [List.take_of_length_le (by simp)]
      go_wp2_with fail
      go_ret
      exact ⟨rfl, rfl⟩
/-- A result of the reference. -/
structure RTd where
  x : Nat
  s : Int
  i : Int
  o : Int
instance : Inhabited RTd := ⟨⟨0, 0, 0, 0⟩⟩
def rC (t : RTd) : List Value := [.int .i64 t.x, .int .i64 t.s, .int .i64 t.i, .int .i64 t.o]
theorem rC_len (t : RTd) : (rC t).length = 4 := rfl
def befR (a b : RTd) : Bool := if a.s ≠ b.s then decide (a.s < b.s) else if a.i ≠ b.i then decide (b.i < a.i) else decide (a.x < b.x)
set_option maxRecDepth 100000 in
set_option maxHeartbeats 2000000 in
theorem before29_any (a b : RTd) (w : World) : Calls Tryz.prog 29 #[.agg #[.int .i64 a.x, .int .i64 a.s, .int .i64 a.i, .int .i64 a.o], .agg #[.int .i64 b.x, .int .i64 b.s, .int .i64 b.i, .int .i64 b.o]] w fun e w' => e = .returned (.bool (befR a b)) ∧ More w w' := by
  have HB := Lib.hid (show befR a b = if a.s ≠ b.s then decide (a.s < b.s) else if a.i ≠ b.i then decide (b.i < a.i) else decide (a.x < b.x) from rfl)
  have H1 := Lib.hid (show a.s ≠ b.s → befR a b = decide (a.s < b.s) from fun h => by rw [HB.out, if_pos h])
  have H2 := Lib.hid (show a.s = b.s → a.i ≠ b.i → befR a b = decide (b.i < a.i) from fun h h' => by rw [HB.out, if_neg (by simp [h]), if_pos h'])
  have H3 := Lib.hid (show a.s = b.s → a.i = b.i → befR a b = decide ((a.x : Int) < (b.x : Int)) from fun h h' => by rw [HB.out, if_neg (by simp [h]), if_neg (by simp [h'])]; exact decide_eq_decide.2 (by omega))
  clear HB
  generalize befR a b = r at *
  obtain ⟨ax, as', ai, ao⟩ := a
  obtain ⟨bx, bs, bi, bo⟩ := b
  dsimp only at *
  go_enter Tryz.func29, Tryz.ntmps29
  go_upto_region 1 with (fail)
  obtain ⟨b1, b2, hm⟩ := boxed2 w (.cells #[.int .i64 ax, .int .i64 as', .int .i64 ai, .int .i64 ao] 77) (.cells #[.int .i64 bx, .int .i64 bs, .int .i64 bi, .int .i64 bo] 77)
  generalize (w.alloc (.cells #[.int .i64 ax, .int .i64 as', .int .i64 ai, .int .i64 ao] 77)).alloc (.cells #[.int .i64 bx, .int .i64 bs, .int .i64 bi, .int .i64 bo] 77) = w2 at *
  have HM := Lib.hid hm.1
  have a0 : w2.cell? ⟨w.heap.size, 0, none⟩ = some (.int .i64 ax) := cell_of_blk b1 rfl
  have a1 : w2.cell? ⟨w.heap.size, 1, none⟩ = some (.int .i64 as') := cell_of_blk b1 rfl
  have a2 : w2.cell? ⟨w.heap.size, 2, none⟩ = some (.int .i64 ai) := cell_of_blk b1 rfl
  have c0 : w2.cell? ⟨w.heap.size + 1, 0, none⟩ = some (.int .i64 bx) := cell_of_blk b2 rfl
  have c1 : w2.cell? ⟨w.heap.size + 1, 1, none⟩ = some (.int .i64 bs) := cell_of_blk b2 rfl
  have c2 : w2.cell? ⟨w.heap.size + 1, 2, none⟩ = some (.int .i64 bi) := cell_of_blk b2 rfl
  have ha := cell_lt a0
  have hb := cell_lt c0
  clear b1 b2 hm
  by_cases h1 : as' = bs
  · subst h1
    by_cases h2 : ai = bi
    · obtain rfl := H3.out rfl h2
      subst h2
      clear H1 H2 H3
      go_wp2_with fail
      go_ret
      exact ⟨by simp, HM.out⟩
    · have h2b : (ai != bi) = true := by simpa using h2
      obtain rfl := H2.out rfl h2
      clear h2 H1 H2 H3
      go_wp2_with fail
      go_ret
      exact ⟨rfl, HM.out⟩
  · have h1b : (as' != bs) = true := by simpa using h1
    obtain rfl := H1.out h1
    clear h1 H1 H2 H3
    go_wp2_with fail
    go_ret
    exact ⟨rfl, HM.out⟩
end Go.Proofs.YtemeppfikpafbaaGreat

/- The reference's Combine (13): plain. -/
namespace Go.Proofs.YtemeppfikpafbaaGreat
open Go.RowKit
theorem infoR : (Tryz.prog.info? 77).map (fun i => (i.zero, i.size, i.bytes)) = some (some (.agg #[.int .i64 0, .int .i64 0, .int .i64 0, .int .i64 0]), 4, 32) := by kernel_rfl
def mkR (ns : List (List Nat)) (cb : Bool) (y : Nat) : RTd := ⟨y, if cntN ns y = ns.length then (if cb then 1 else 3) else 2, cntN ns y, ns.length⟩
theorem befR_spec (a b : RTd) : befR a b = true ↔ a.s < b.s ∨ (a.s = b.s ∧ (b.i < a.i ∨ (a.i = b.i ∧ a.x < b.x))) := by
  unfold befR
  by_cases h1 : a.s = b.s
  · by_cases h2 : a.i = b.i
    · simp [h1, h2]
    · simp [h1, h2]
  · simp [h1]
theorem befR_trans {a b c : RTd} (h1 : befR a b = true) (h2 : befR b c = true) : befR a c = true := by
  rw [befR_spec] at *
  omega
theorem befR_total {a b : RTd} (h : befR a b = false) (hx : a.x ≠ b.x) : befR b a = true := by
  have h' : ¬ (befR a b = true) := by simp [h]
  rw [befR_spec] at *
  omega
theorem befR_irr (a : RTd) : befR a a = false := by
  have : ¬ (befR a a = true) := by rw [befR_spec]; omega
  simpa using this
/-- The results so far, in order. -/
structure RfL (ns : List (List Nat)) (cb : Bool) (x : Nat) (L : List RTd) : Prop where
  asc : L.Pairwise fun a b => befR a b = true
  mem : ∀ t, t ∈ L ↔ ∃ y, y < x ∧ 0 < cntN ns y ∧ t = mkR ns cb y
  len : L.length ≤ x
theorem RfL.nil (ns : List (List Nat)) (cb : Bool) : RfL ns cb 0 [] := ⟨List.Pairwise.nil, fun t => ⟨fun h => by simp at h, fun ⟨y, h, _⟩ => absurd h (by omega)⟩, Nat.le_refl _⟩
theorem RfL.skip {ns : List (List Nat)} {cb : Bool} {x : Nat} {L : List RTd} (h : RfL ns cb x L) (h0 : cntN ns x = 0) : RfL ns cb (x + 1) L :=
  ⟨h.asc, fun t => (h.mem t).trans ⟨fun ⟨y, a, b, c⟩ => ⟨y, by omega, b, c⟩, fun ⟨y, a, b, c⟩ => ⟨y, by
    rcases Nat.lt_or_ge y x with h1 | h1
    · exact h1
    · obtain rfl : y = x := by omega
      omega, b, c⟩⟩, by have := h.len; omega⟩
theorem RfL.ins {ns : List (List Nat)} {cb : Bool} {x : Nat} {L : List RTd} (h : RfL ns cb x L) (h0 : 0 < cntN ns x) {i : Nat} (hi : i ≤ L.length)
    (hr : ∀ j (hj : j < L.length), i ≤ j → befR (mkR ns cb x) L[j] = true) (hl : ∀ j (hj : j < L.length), j + 1 = i → befR (mkR ns cb x) L[j] = false) : RfL ns cb (x + 1) (L.take i ++ mkR ns cb x :: L.drop i) := by
  have hp := List.pairwise_iff_getElem.1 h.asc
  have hx : ∀ j (hj : j < L.length), L[j].x < x := fun j hj => by
    obtain ⟨y, hy, _, e⟩ := (h.mem L[j]).1 (List.getElem_mem hj)
    rw [e]; exact hy
  have hl2 : ∀ j (hj : j < L.length), j < i → befR L[j] (mkR ns cb x) = true := fun j hj hji => by
    have hi1 : i - 1 < L.length := by omega
    have h1 : befR L[i - 1] (mkR ns cb x) = true := befR_total (hl (i - 1) hi1 (by omega)) (by have := hx _ hi1; show x ≠ _; omega)
    by_cases e : j = i - 1
    · subst e; exact h1
    · exact befR_trans (hp j (i - 1) hj hi1 (by omega)) h1
  refine ⟨List.pairwise_append.2 ⟨h.asc.sublist (List.take_sublist _ _), List.pairwise_cons.2 ⟨fun b hb => ?_, h.asc.sublist (List.drop_sublist _ _)⟩, fun a ha b hb => ?_⟩, fun t => ?_, ?_⟩
  · obtain ⟨n, hn, rfl⟩ := List.mem_iff_getElem.1 hb
    have hn' := hn
    rw [List.length_drop] at hn'
    rw [List.getElem_drop]
    exact hr _ (by omega) (by omega)
  · obtain ⟨n, hn, rfl⟩ := List.mem_iff_getElem.1 ha
    have hn' := hn
    rw [List.length_take] at hn'
    rw [List.getElem_take]
    rcases List.mem_cons.1 hb with rfl | hb
    · exact hl2 n (by omega) (by omega)
    · obtain ⟨m, hm, rfl⟩ := List.mem_iff_getElem.1 hb
      have hm' := hm
      rw [List.length_drop] at hm'
      rw [List.getElem_drop]
      exact hp n (i + m) (by omega) (by omega) (by omega)
  · have hm : t ∈ L.take i ++ mkR ns cb x :: L.drop i ↔ t = mkR ns cb x ∨ t ∈ L := by
      conv => rhs; rhs; rw [← List.take_append_drop i L]
      simp only [List.mem_append, List.mem_cons]
      constructor
      · rintro (h | h | h)
        · exact Or.inr (Or.inl h)
        · exact Or.inl h
        · exact Or.inr (Or.inr h)
      · rintro (h | h | h)
        · exact Or.inr (Or.inl h)
        · exact Or.inl h
        · exact Or.inr (Or.inr h)
    rw [hm, h.mem]
    constructor
    · rintro (rfl | ⟨y, a, b, c⟩)
      · exact ⟨x, by omega, h0, rfl⟩
      · exact ⟨y, by omega, b, c⟩
    · rintro ⟨y, a, b, c⟩
      rcases Nat.lt_or_ge y x with h1 | h1
      · exact Or.inr ⟨y, h1, b, c⟩
      · obtain rfl : y = x := by omega
        exact Or.inl c
  · have := h.len
    rw [List.length_append, List.length_cons, List.length_take, List.length_drop]
    omega
theorem rC_one (L : List RTd) : ∀ u ∈ flatC rC L, u.oneCell' = true := by
  intro u hu
  unfold flatC at hu
  obtain ⟨x, _, hu⟩ := List.mem_flatMap.1 hu
  simp only [rC, List.mem_cons, List.not_mem_nil, or_false] at hu
  rcases hu with rfl | rfl | rfl | rfl <;> rfl
end Go.Proofs.YtemeppfikpafbaaGreat

