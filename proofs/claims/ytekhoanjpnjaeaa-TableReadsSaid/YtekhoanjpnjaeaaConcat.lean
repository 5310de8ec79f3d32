/- slices.Concat at table's entries (81). -/
import Derived.Test.YtekhoanjpnjaeaaGrowT
import Derived.Test.YtekhoanjpnjaeaaSame
import Derived.Laws.AppendOwnNone
namespace Go.Proofs.Ytekhoanjpnjaeaa
open Go.RowKit

/-- The entries of several slices, one behind the other. -/
def catL (ls : List (List (Int × Int))) : List (Int × Int) := ls.flatten
def sumL (ls : List (List (Int × Int))) : Nat := (ls.map List.length).sum
theorem catL_len (ls : List (List (Int × Int))) : (catL ls).length = sumL ls := by
  unfold catL sumL; rw [List.length_flatten]
theorem sumL_take (ls : List (List (Int × Int))) (j : Nat) (hj : j < ls.length) : sumL (ls.take (j + 1)) = sumL (ls.take j) + ls[j].length := by
  unfold sumL; rw [List.take_succ_eq_append_getElem hj, List.map_append, List.sum_append]; rfl
theorem sumL_le (ls : List (List (Int × Int))) (j : Nat) : sumL (ls.take j) ≤ sumL ls := by
  have h : sumL (ls.take j) + sumL (ls.drop j) = sumL ls := by
    unfold sumL; rw [← List.sum_append, ← List.map_append, List.take_append_drop]
  omega
theorem catL_take (ls : List (List (Int × Int))) (j : Nat) (hj : j < ls.length) : catL (ls.take (j + 1)) = catL (ls.take j) ++ ls[j] := by
  unfold catL; rw [List.take_succ_eq_append_getElem hj, List.flatten_append, List.flatten_cons, List.flatten_nil, List.append_nil]
theorem flat2_append (a b : List (Int × Int)) : flat2 (a ++ b) = flat2 a ++ flat2 b := by
  induction a with
  | nil => rfl
  | cons x r ih => simp [flat2, ih]
theorem flat2_one (l : List (Int × Int)) : ∀ u ∈ flat2 l, u.oneCell' = true := by
  induction l with
  | nil => intro u hu; cases hu
  | cons x r ih =>
    intro u hu
    rcases List.mem_cons.1 hu with e | e
    · subst e; rfl
    · rcases List.mem_cons.1 e with e | e
      · subst e; rfl
      · exact ih u e

/-- nil, or an address of its own. -/
def PlainA (a : Option Addr) (c : Nat) : Prop := (a = none ∧ c = 0) ∨ ∃ b off, a = some ⟨b, off, none⟩
theorem PlainA.nil {a : Option Addr} {c : Nat} (h : PlainA a c) (e : a = none) : c = 0 := by
  rcases h with h | ⟨b, off, h⟩
  · exact h.2
  · rw [h] at e; cases e

set_option maxRecDepth 100000 in
set_option maxHeartbeats 2000000 in
theorem concat_any (S S' : Nat → Prop) (ls : List (List (Int × Int))) (vs : List Value) (v : Value) (w : World) (hn : ls.length < 1000) (hs : sumL ls < 4294967296) (hv : Row S w 1 ls.length v vs)
    (hr : ∀ i (h : i < ls.length), ∃ a c, vs[i]? = some (.slice a ls[i].length c) ∧ Row S' w 2 ls[i].length (.slice a ls[i].length c) (flat2 ls[i]) ∧ (a = none → c = 0)) :
    Calls Try.prog 81 #[v] w fun e w' => Below w.heap.size w w' ∧ ∃ a c, e = .returned (.slice a (catL ls).length c) ∧ Row (fun x => w.heap.size ≤ x) w' 2 (catL ls).length (.slice a (catL ls).length c) (flat2 (catL ls)) ∧ PlainA a c := by
  obtain ⟨a, cap, rfl, hcap⟩ := hv.shape
  have HV := Lib.hid hv; clear hv
  have HR := Lib.hid hr; clear hr
  obtain ⟨i0, hi0, hz0, hz1, hz2⟩ := info_parts Try.info151
  go_enter Try.func81, Try.ntmps81
  go_wp2_with fail
  go_loop [3, 11] (fun sz i => ∃ j : Nat, j ≤ ls.length ∧ i = .int .i64 j ∧ sz = .int .i64 (sumL (ls.take j))) (fun _ i => ls.length - (intOf i).toNat)
  case atStart => exact ⟨0, Nat.zero_le _, rfl, rfl⟩
  case round =>
    obtain ⟨j, hj, rfl, rfl⟩ := hrel
    have hsj := sumL_le ls j
    by_cases hlt : j < ls.length
    · obtain ⟨b, off, rfl, _, _, hc⟩ := HV.out.at (by omega)
      obtain ⟨ta, tc, h1, h2, _⟩ := HR.out j hlt
      have g0 := hc j _ h1
      clear hc h1 h2
      have hst := sumL_take ls j hlt
      have hs2 := sumL_le ls (j + 1)
      have HST := Lib.hid hst
      have hb1 : sumL (ls.take j) + ls[j].length < 4294967296 := by omega
      clear hst hs2
      generalize ls[j].length = m at *
      generalize sumL (ls.take j) = q at *
      go_wp2_with fail
      go_round
      case rel => exact ⟨j + 1, by omega, by go_num, by rw [HST.out]; go_num⟩
      case measure => simp [intOf]; omega
    · obtain rfl : j = ls.length := by omega
      rw [List.take_length]
      go_wp2_with fail
      refine (grow_any (sumL ls) w (by omega)).mono ?_
      rintro e w1 ⟨hb1, v1, rfl, ho1⟩
      have HM1 := Lib.hid (more_of hb1)
      have HO1 := Lib.hid ho1
      obtain ⟨a1, c1, rfl, _⟩ := owns_shape ho1
      clear hb1 ho1
      go_wp2_with fail
      go_loopw [6, 27] (fun o i wr => ∃ j : Nat, j ≤ ls.length ∧ i = .int .i64 j ∧ Hid (More w wr) ∧ Hid (wr.ownsRow w.heap.size 151 2 o (sumL (ls.take j)) (flat2 (catL (ls.take j))))) (fun _ i _ => ls.length - (intOf i).toNat)
      case atStart => exact ⟨0, Nat.zero_le _, rfl, HM1, HO1⟩
      case round =>
        obtain ⟨j, hj, rfl, HM, HO⟩ := hrel
        have hsj := sumL_le ls j
        obtain ⟨oa, ocap, rfl, hoo⟩ := owns_shape HO.out
        have HOO := Lib.hid hoo; clear hoo
        by_cases hlt : j < ls.length
        · obtain ⟨b, off, rfl, _, _, hc⟩ := HV.out.at (by omega)
          obtain ⟨ta, tc, h1, h2, h3⟩ := HR.out j hlt
          have g0 := HM.out.cell (hc j _ h1)
          have hbg := cell_lt g0
          have HROW := Lib.hid (h2.below HM.out.below)
          clear hc h1 h2
          have HST := Lib.hid (sumL_take ls j hlt)
          have HCT := Lib.hid (catL_take ls j hlt)
          have hs2 := sumL_le ls (j + 1)
          have hb1 : sumL (ls.take j) + ls[j].length < 4294967296 := by have := HST.out; omega
          clear hs2
          generalize ls[j] = T at *
          generalize catL (ls.take j) = C at *
          generalize sumL (ls.take j) = q at *
          have hbs := HM.out.size
          cases ta with
          | none =>
            obtain rfl := h3 rfl
            have hT : T = [] := by
              cases T with
              | nil => rfl
              | cons x r => obtain ⟨_, _, he, _⟩ := HROW.out.at (by simp); cases he
            subst hT
            go_wp2_with (at_builtin; refine wpList_append_own_none rfl _ _ _ rfl w.heap.size 151 i0 2 Try.underlying52 hi0 (.slice oa q ocap) q (flat2 C) rfl HO.out rfl ?_)
            go_wp2_with fail
            go_roundw
            case rel => exact ⟨j + 1, by omega, by go_num, HM, Lib.hid (by rw [HST.out, HCT.out, List.append_nil]; exact HO.out)⟩
            case measure => simp [intOf]; omega
          | some ta =>
            have HNEW := Lib.hid (show ∀ i u, (flat2 T)[i]? = some u → wr.cell? (ta.add i) = some u from fun i u hu => by
              have hne : T.length ≠ 0 := by
                intro e
                have : T = [] := List.length_eq_zero_iff.1 e
                subst this; simp [flat2] at hu
              obtain ⟨b2, off2, he, _, _, hc2⟩ := HROW.out.at hne
              cases he
              rw [Addr.add_lit]
              exact hc2 i u hu)
            have hm1 : q + T.length ≤ maxLen := by unfold maxLen; omega
            have hm2 : (q + T.length) * 16 ≤ 140737488355328 := by omega
            have HF1 := Lib.hid (flat2_length T)
            have HF2 := Lib.hid (flat2_one T)
            go_wp2_with (at_builtin; refine wpList_append_own _ rfl _ _ _ rfl w.heap.size 151 i0 _ 2 16 Try.underlying52 hi0 hz0 hz1 hz2 rfl (by omega) (.slice oa q ocap) q (flat2 C) rfl HO.out ta T.length tc (flat2 T) rfl HF1.out HNEW.out HF2.out hm1 hm2 hbs ?_; intro v2 w2 hown2 hgrow2 _)
            have HM2 := Lib.hid (show More w w2 from more_of (HM.out.below.grown hgrow2 hbs (fun y hy => (HOO.out y hy).1)))
            have HO2 := Lib.hid (show w2.ownsRow w.heap.size 151 2 v2 (sumL (ls.take (j + 1))) (flat2 (catL (ls.take (j + 1)))) by rw [HST.out, HCT.out, flat2_append]; exact hown2)
            clear hown2 hgrow2
            go_wp2_with fail
            go_roundw
            case rel => exact ⟨j + 1, by omega, by go_num, HM2, HO2⟩
            case measure => simp [intOf]; omega
        · have HE := Lib.hid (show ls.take j = ls from List.take_of_length_le (by omega))
          rw [HE.out, ← catL_len] at HO
          rw [HE.out, ← catL_len] at HOO
          rw [HE.out, ← catL_len]
          go_wp2_with fail
          go_ret
          refine ⟨HM.out.below, oa, ocap, rfl, Row.of_owns HO.out, ?_⟩
          obtain ⟨_, h | ⟨g, c, cur, h, _⟩⟩ := HO.out
          · have := h.1; simp at this; exact Or.inl ⟨this.1, this.2.2⟩
          · cases h; exact Or.inr ⟨g, 0, rfl⟩
end Go.Proofs.Ytekhoanjpnjaeaa
