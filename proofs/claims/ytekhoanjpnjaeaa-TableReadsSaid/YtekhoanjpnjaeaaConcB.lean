/- Bytes: slices.Grow (121), slices.Concat (83), PutUint (84), Zigzag (123), PutInt (85). -/
import Derived.Test.YtekhoanjpnjaeaaByt
namespace Go.Proofs.Ytekhoanjpnjaeaa
open Go.RowKit Go.Shelf

/-- A slice that reads as bytes. -/
def ByV (S : Nat → Prop) (w : World) (l : List Int) (v : Value) : Prop := ∃ a cap, v = .slice a l.length cap ∧ Row S w 1 l.length v (bV l) ∧ PlainA a cap
theorem ByV.below {S : Nat → Prop} {w w' : World} {l : List Int} {v : Value} (hB : Below w.heap.size w w') (h : ByV S w l v) : ByV S w' l v := by
  obtain ⟨a, cap, rfl, hr, hp⟩ := h
  exact ⟨a, cap, rfl, hr.below hB, hp⟩
theorem ByV.mono {S S' : Nat → Prop} {w : World} {l : List Int} {v : Value} (hS : ∀ b, S b → S' b) (h : ByV S w l v) : ByV S' w l v := by
  obtain ⟨a, cap, rfl, hr, hp⟩ := h
  exact ⟨a, cap, rfl, hr.mono hS (fun _ _ _ _ h => h), hp⟩
theorem ByV.nil (S : Nat → Prop) (w : World) : ByV S w [] (.slice none 0 0) := ⟨none, 0, rfl, Row.nil _ _ _ _ _, Or.inl ⟨rfl, rfl⟩⟩
theorem plain_owns {w : World} {B : Nat} {e : TypeId} {n size cap : Nat} {a : Option Addr} {xs : List Value} (h : w.ownsRow B e size (.slice a n cap) n xs) : PlainA a cap := by
  obtain ⟨_, h | ⟨g, c, cur, h, _⟩⟩ := h
  · have := h.1; simp at this; exact Or.inl ⟨this.1, this.2.2⟩
  · cases h; exact Or.inr ⟨g, 0, rfl⟩
theorem ByV.of_owns {w : World} {B : Nat} {l : List Int} {v : Value} (h : w.ownsRow B 5 1 v l.length (bV l)) : ByV (fun x => B ≤ x) w l v := by
  obtain ⟨a, cap, rfl, _⟩ := owns_shape h
  exact ⟨a, cap, rfl, Row.of_owns h, plain_owns h⟩
theorem bV_length1 (O : List Int) : (bV O).length = O.length * 1 := by rw [bV_length, Nat.mul_one]
/-- What an append law asks of its source. -/
theorem ByV.news {S : Nat → Prop} {w : World} {l : List Int} {ad : Addr} {n cap : Nat} (h : ByV S w l (.slice (some ad) n cap)) : ∀ i u, (bV l)[i]? = some u → w.cell? (ad.add i) = some u := fun i u hu => by
  obtain ⟨a, c, e, hr, _⟩ := h
  cases e
  have hne : l.length ≠ 0 := by
    intro e
    have : l = [] := List.length_eq_zero_iff.1 e
    subst this; simp [bV] at hu
  obtain ⟨b2, off2, he, _, _, hc2⟩ := hr.at hne
  cases he
  rw [Addr.add_lit]
  exact hc2 i u hu
theorem ByV.none' {S : Nat → Prop} {w : World} {l : List Int} {n cap : Nat} (h : ByV S w l (.slice none n cap)) : l = [] ∧ n = 0 ∧ cap = 0 := by
  obtain ⟨a, c, e, hr, hp⟩ := h
  cases e
  have hc : cap = 0 := hp.nil rfl
  have hn : l.length = 0 := by
    by_cases hn : l.length = 0
    · exact hn
    · obtain ⟨_, _, he, _⟩ := hr.at hn; cases he
  exact ⟨List.length_eq_zero_iff.1 hn, hn, hc⟩

theorem growB_any (n : Nat) (w : World) (hn : n ≤ 140737488355328) :
    Calls Try.prog 121 #[.slice none 0 0, .int .i64 n] w fun e w' => Below w.heap.size w w' ∧ ∃ v, e = .returned v ∧ w'.ownsRow w.heap.size 5 1 v 0 [] := by
  obtain ⟨i0, hi0, hz0, hz1, hz2⟩ := info_parts Try.info5
  by_cases h0 : n = 0
  · subst h0
    refine (Any8.slices_Grow_room Try.growB none 0 0 0 w (Nat.le_refl _) (by omega) (by omega) (by omega)).mono ?_
    rintro e w' ⟨rfl, rfl⟩
    exact ⟨Below.refl _ _, _, rfl, World.ownsRow_nil _ _ _ _⟩
  · refine (Any8.slices_Grow_grow Try.growB i0 _ hi0 hz0 (by omega) none 0 0 n [] w (Nat.le_refl _) (by omega) (by rw [hz2]; omega) (by omega) (by simp) (fun _ => rfl) (fun _ h => by cases h)).mono ?_
    rintro e w' ⟨rfl, rfl⟩
    refine ⟨(below_drewN w 1 _).alloc (Nat.le_refl _) _, _, rfl, ?_⟩
    have hg := grownCap_ge w (0 + n) 0 (Try.growB_ren.t 25)
    refine World.ownsRow_made w.drew _ _ (Nat.le_refl _) (grownCap_le_maxLen _ _ _ _ (by unfold maxLen; omega)) ?_
    rw [Array.size_append, Array.size_append, size_zeroCells, size_zeroCells, show (Value.int .u8 0).cells.size = 1 from by simp [Value.cells]]
    simp only [List.size_toArray, List.length_nil]
    generalize grownCap w (0 + n) 0 (Try.growB_ren.t 25) = g at *
    omega

/-- The bytes of several slices, one behind the other. -/
def catB (ls : List (List Int)) : List Int := ls.flatten
def sumB (ls : List (List Int)) : Nat := (ls.map List.length).sum
theorem catB_len (ls : List (List Int)) : (catB ls).length = sumB ls := by
  unfold catB sumB; rw [List.length_flatten]
theorem sumB_take (ls : List (List Int)) (j : Nat) (hj : j < ls.length) : sumB (ls.take (j + 1)) = sumB (ls.take j) + ls[j].length := by
  unfold sumB; rw [List.take_succ_eq_append_getElem hj, List.map_append, List.sum_append]; rfl
theorem sumB_le (ls : List (List Int)) (j : Nat) : sumB (ls.take j) ≤ sumB ls := by
  have h : sumB (ls.take j) + sumB (ls.drop j) = sumB ls := by
    unfold sumB; rw [← List.sum_append, ← List.map_append, List.take_append_drop]
  omega
theorem catB_take (ls : List (List Int)) (j : Nat) (hj : j < ls.length) : catB (ls.take (j + 1)) = catB (ls.take j) ++ ls[j] := by
  unfold catB; rw [List.take_succ_eq_append_getElem hj, List.flatten_append, List.flatten_cons, List.flatten_nil, List.append_nil]
set_option maxRecDepth 100000 in
set_option maxHeartbeats 2000000 in
theorem concatB_any (S S' : Nat → Prop) (ls : List (List Int)) (vs : List Value) (v : Value) (w : World) (hn : ls.length < 1000) (hs : sumB ls ≤ 140737488355328) (hv : Row S w 1 ls.length v vs)
    (hr : ∀ i (h : i < ls.length), ∃ a c, vs[i]? = some (.slice a ls[i].length c) ∧ Row S' w 1 ls[i].length (.slice a ls[i].length c) (bV ls[i]) ∧ (a = none → c = 0)) :
    Calls Try.prog 83 #[v] w fun e w' => Below w.heap.size w w' ∧ ∃ v, e = .returned v ∧ w'.ownsRow w.heap.size 5 1 v (catB ls).length (bV (catB ls)) := by
  obtain ⟨a, cap, rfl, hcap⟩ := hv.shape
  have HV := Lib.hid hv; clear hv
  have HR := Lib.hid hr; clear hr
  obtain ⟨i0, hi0, hz0, hz1, hz2⟩ := info_parts Try.info5
  go_enter Try.func83, Try.ntmps83
  go_wp2_with fail
  go_loop [3, 11] (fun sz i => ∃ j : Nat, j ≤ ls.length ∧ i = .int .i64 j ∧ sz = .int .i64 (sumB (ls.take j))) (fun _ i => ls.length - (intOf i).toNat)
  case atStart => exact ⟨0, Nat.zero_le _, rfl, rfl⟩
  case round =>
    obtain ⟨j, hj, rfl, rfl⟩ := hrel
    have hsj := sumB_le ls j
    by_cases hlt : j < ls.length
    · obtain ⟨b, off, rfl, _, _, hc⟩ := HV.out.at (by omega)
      obtain ⟨ta, tc, h1, h2, _⟩ := HR.out j hlt
      have g0 := hc j _ h1
      clear hc h1 h2
      have hst := sumB_take ls j hlt
      have hs2 := sumB_le ls (j + 1)
      have HST := Lib.hid hst
      have hb1 : sumB (ls.take j) + ls[j].length ≤ 140737488355328 := by omega
      clear hst hs2
      generalize ls[j].length = m at *
      generalize sumB (ls.take j) = q at *
      go_wp2_with fail
      go_round
      case rel => exact ⟨j + 1, by omega, by go_num, by rw [HST.out]; go_num⟩
      case measure => simp [intOf]; omega
    · obtain rfl : j = ls.length := by omega
      rw [List.take_length]
      go_wp2_with fail
      refine (growB_any (sumB ls) w (by omega)).mono ?_
      rintro e w1 ⟨hb1, v1, rfl, ho1⟩
      have HM1 := Lib.hid (more_of hb1)
      have HO1 := Lib.hid ho1
      obtain ⟨a1, c1, rfl, _⟩ := owns_shape ho1
      clear hb1 ho1
      go_wp2_with fail
      go_loopw [6, 27] (fun o i wr => ∃ j : Nat, j ≤ ls.length ∧ i = .int .i64 j ∧ Hid (More w wr) ∧ Hid (wr.ownsRow w.heap.size 5 1 o (sumB (ls.take j)) (bV (catB (ls.take j))))) (fun _ i _ => ls.length - (intOf i).toNat)
      case atStart => exact ⟨0, Nat.zero_le _, rfl, HM1, HO1⟩
      case round =>
        obtain ⟨j, hj, rfl, HM, HO⟩ := hrel
        have hsj := sumB_le ls j
        obtain ⟨oa, ocap, rfl, hoo⟩ := owns_shape HO.out
        have HOO := Lib.hid hoo; clear hoo
        by_cases hlt : j < ls.length
        · obtain ⟨b, off, rfl, _, _, hc⟩ := HV.out.at (by omega)
          obtain ⟨ta, tc, h1, h2, h3⟩ := HR.out j hlt
          have g0 := HM.out.cell (hc j _ h1)
          have hbg := cell_lt g0
          have HROW := Lib.hid (h2.below HM.out.below)
          clear hc h1 h2
          have HST := Lib.hid (sumB_take ls j hlt)
          have HCT := Lib.hid (catB_take ls j hlt)
          have hs2 := sumB_le ls (j + 1)
          have hb1 : sumB (ls.take j) + ls[j].length ≤ 140737488355328 := by have := HST.out; omega
          clear hs2
          generalize ls[j] = T at *
          generalize catB (ls.take j) = C at *
          generalize sumB (ls.take j) = q at *
          have hbs := HM.out.size
          cases ta with
          | none =>
            obtain rfl := h3 rfl
            have hT : T = [] := by
              cases T with
              | nil => rfl
              | cons x r => obtain ⟨_, _, he, _⟩ := HROW.out.at (by simp); cases he
            subst hT
            go_wp2_with (at_builtin; refine wpList_append_own_none rfl _ _ _ rfl w.heap.size 5 i0 1 Try.underlying80 hi0 (.slice oa q ocap) q (bV C) rfl HO.out rfl ?_)
            go_wp2_with fail
            go_roundw
            case rel => exact ⟨j + 1, by omega, by go_num, HM, Lib.hid (by rw [HST.out, HCT.out, List.append_nil]; exact HO.out)⟩
            case measure => simp [intOf]; omega
          | some ta =>
            have HNEW := Lib.hid (show ∀ i u, (bV T)[i]? = some u → wr.cell? (ta.add i) = some u from fun i u hu => by
              have hne : T.length ≠ 0 := by
                intro e
                have : T = [] := List.length_eq_zero_iff.1 e
                subst this; simp [bV] at hu
              obtain ⟨b2, off2, he, _, _, hc2⟩ := HROW.out.at hne
              cases he
              rw [Addr.add_lit]
              exact hc2 i u hu)
            have hm1 : q + T.length ≤ maxLen := by unfold maxLen; omega
            have hm2 : (q + T.length) * 1 ≤ 140737488355328 := by omega
            have HF1 := Lib.hid (bV_length1 T)
            have HF2 := Lib.hid (bV_one T)
            go_wp2_with (at_builtin; refine wpList_append_own _ rfl _ _ _ rfl w.heap.size 5 i0 _ 1 1 Try.underlying80 hi0 hz0 hz1 hz2 rfl (by omega) (.slice oa q ocap) q (bV C) rfl HO.out ta T.length tc (bV T) rfl HF1.out HNEW.out HF2.out hm1 hm2 hbs ?_; intro v2 w2 hown2 hgrow2 _)
            have HM2 := Lib.hid (show More w w2 from more_of (HM.out.below.grown hgrow2 hbs (fun y hy => (HOO.out y hy).1)))
            have HO2 := Lib.hid (show w2.ownsRow w.heap.size 5 1 v2 (sumB (ls.take (j + 1))) (bV (catB (ls.take (j + 1)))) by rw [HST.out, HCT.out, bV_append]; exact hown2)
            clear hown2 hgrow2
            go_wp2_with fail
            go_roundw
            case rel => exact ⟨j + 1, by omega, by go_num, HM2, HO2⟩
            case measure => simp [intOf]; omega
        · have HE := Lib.hid (show ls.take j = ls from List.take_of_length_le (by omega))
          rw [HE.out, ← catB_len] at HO
          rw [HE.out, ← catB_len] at HOO
          rw [HE.out, ← catB_len]
          go_wp2_with fail
          go_ret
          exact ⟨HM.out.below, _, rfl, HO.out⟩
end Go.Proofs.Ytekhoanjpnjaeaa
