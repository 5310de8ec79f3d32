/- rootcauseref10.add (103): a name into a sorted list. -/
import Derived.Test.YtekhoanjpnjaeaaSortS
import Derived.Deep.AppendLies
namespace Go.Proofs.Ytekhoanjpnjaeaa
open Go.RowKit
theorem Try.info9s : (Try.prog.info? 9).map (fun i => (i.zero, i.size, i.bytes)) = some (some (.string ⟨#[]⟩), 1, 16) := by kernel_rfl
def sV (l : List ByteArray) : List Value := l.map .string
theorem sV_push (O : List ByteArray) (k : ByteArray) : sV (O ++ [k]) = sV O ++ [.string k] := by simp [sV]
theorem sV_get (l : List ByteArray) (j : Nat) (h : j < l.length) : (sV l)[j]? = some (.string l[j]) := by simp [sV, h]
theorem less_of {a b : ByteArray} : Op.bytesLess a.toList b.toList = decide (a.data.toList < b.data.toList) := by rw [bytesLess_eq, Lib.toList_data, Lib.toList_data]
theorem eq_of (a b : ByteArray) : (a.toList == b.toList) = true ↔ a = b := by
  rw [beq_iff_eq, Lib.toList_data, Lib.toList_data]
  exact ⟨fun h => ba_inj h, fun h => by rw [h]⟩
theorem str_app {w wr w2 : World} {L : List ByteArray} {x : ByteArray} {oa : Option Addr} {ocap g cap : Nat} {ob : Obj} (hM : More w wr) (hO : wr.ownsRow w.heap.size 9 1 (.slice oa L.length ocap) L.length (sV L))
    (hgrow : (wr.alloc ob).grownBy w2 (Value.slice oa L.length ocap).ownBlock) (hown : w2.ownsRow w.heap.size 9 1 (.slice (some ⟨g, 0, none⟩) (L.length + 1) cap) (L.length + 1) (sV L ++ [.string x])) :
    More w w2 ∧ w2.ownsRow w.heap.size 9 1 (.slice (some ⟨g, 0, none⟩) (L.length + 1) cap) (L ++ [x]).length (sV (L ++ [x])) := by
  obtain ⟨a, c, _, hoo⟩ := owns_shape (hO.alloc ob)
  refine ⟨more_of ((hM.below.alloc hM.size _).grown hgrow (by rw [World.size_alloc]; have := hM.size; omega) (fun y hy => (hoo y hy).1)), ?_⟩
  rw [sV_push, List.length_append]; exact hown
theorem str_app2 {w wr w2 : World} {L : List ByteArray} {s x : ByteArray} {g1 c1 g cap : Nat} {ob : Obj} (hM : More w wr) (hO : wr.ownsRow w.heap.size 9 1 (.slice (some ⟨g1, 0, none⟩) (L.length + 1) c1) (L.length + 1) (sV L ++ [.string s]))
    (hgrow : (wr.alloc ob).grownBy w2 (Value.slice (some ⟨g1, 0, none⟩) (L.length + 1) c1).ownBlock) (hown : w2.ownsRow w.heap.size 9 1 (.slice (some ⟨g, 0, none⟩) (L.length + 1 + 1) cap) (L.length + 1 + 1) (sV L ++ [.string s] ++ [.string x])) :
    More w w2 ∧ w2.ownsRow w.heap.size 9 1 (.slice (some ⟨g, 0, none⟩) (L.length + 1 + 1) cap) (L ++ [s] ++ [x]).length (sV (L ++ [s] ++ [x])) := by
  obtain ⟨a, c, _, hoo⟩ := owns_shape (hO.alloc ob)
  refine ⟨more_of ((hM.below.alloc hM.size _).grown hgrow (by rw [World.size_alloc]; have := hM.size; omega) (fun y hy => (hoo y hy).1)), ?_⟩
  rw [sV_push, sV_push, List.length_append, List.length_append]; exact hown
/-- What is still to come: the list's rest, and whether the name is there already. -/
noncomputable def addG (d : Bool) (r : List ByteArray) (s : ByteArray) : List ByteArray := if d then r else addS r s

set_option maxRecDepth 100000 in
set_option maxHeartbeats 2000000 in
theorem radd_any (S : Nat → Prop) (l : List ByteArray) (s : ByteArray) (v : Value) (w : World) (hl : l.length ≤ 1000000) (ha : AscS l) (h : Row S w 1 l.length v (sV l)) :
    Calls Try.prog 103 #[v, .string s] w fun e w' => More w w' ∧ ∃ a cap, e = .returned (.slice a (addS l s).length cap) ∧ w'.ownsRow w.heap.size 9 1 (.slice a (addS l s).length cap) (addS l s).length (sV (addS l s)) := by
  obtain ⟨a, cap, rfl, hcap⟩ := h.shape
  obtain ⟨i0, hi0, hz0, hz1, hz2⟩ := info_parts Try.info9s
  have HR := Lib.hid h; clear h
  have HA := Lib.hid ha; clear ha
  obtain ⟨R, hR⟩ : ∃ R, addS l s = R := ⟨_, rfl⟩
  have HRE := Lib.hid hR
  rw [hR]
  clear hR
  go_enter Try.func103, Try.ntmps103
  go_wp2_with fail
  go_loopw [5, 6, 11] (fun o d i wr => ∃ (j : Nat) (O : List ByteArray) (dn : Bool), j ≤ l.length ∧ O.length ≤ 2 * j ∧ i = .int .i64 j ∧ d = .bool dn ∧ Hid (O ++ addG dn (l.drop j) s = R) ∧ Hid (dn = true → ∀ y ∈ l.drop j, y ≠ s) ∧ Hid (More w wr) ∧ Hid (wr.ownsRow w.heap.size 9 1 o O.length (sV O))) (fun _ _ i _ => l.length - (intOf i).toNat)
  case atStart => exact ⟨0, [], false, Nat.zero_le _, Nat.zero_le _, rfl, rfl, Lib.hid (by rw [List.drop_zero, List.nil_append]; exact HRE.out), Lib.hid (fun h => by cases h), Lib.hid (World.grownBy.refl _ _), Lib.hid (World.ownsRow_nil _ _ _ _)⟩
  case round =>
    obtain ⟨j, O, dn, hj, hOj, rfl, rfl, HE, HD, HM, HO⟩ := hrel
    obtain ⟨oa, ocap, rfl, hoo⟩ := owns_shape HO.out
    have HOO := Lib.hid hoo; clear hoo
    have hbs := HM.out.size
    have hm1 : O.length + 1 ≤ maxLen := by unfold maxLen; omega
    have hm2 : (O.length + 1) * 16 ≤ 140737488355328 := by omega
    by_cases hlt : j < l.length
    · obtain ⟨b, off, rfl, _, _, hc⟩ := HR.out.at (by omega)
      have g0 := HM.out.cell (hc _ _ (sV_get l j hlt))
      have HDR := Lib.hid (List.drop_eq_getElem_cons hlt)
      have HAJ := Lib.hid (show ∀ y ∈ l.drop (j + 1), sLt l[j] y from (List.pairwise_cons.1 (by have := HA.out.sublist (List.drop_sublist j l); rw [HDR.out] at this; exact this)).1)
      clear hc
      generalize l[j] = x at *
      cases dn with
      | true =>
        have hxs : x ≠ s := HD.out rfl x (by rw [HDR.out]; exact List.mem_cons_self)
        have tne : (x.toList == s.toList) = false := by rw [Bool.eq_false_iff]; intro h; exact hxs ((eq_of x s).1 h)
        have HE1 := Lib.hid (show (O ++ [x]) ++ addG true (l.drop (j + 1)) s = R by rw [← HE.out, HDR.out]; simp [addG])
        have HD1 := Lib.hid (show (true = true) → ∀ y ∈ l.drop (j + 1), y ≠ s from fun _ y hy => HD.out rfl y (by rw [HDR.out]; exact List.mem_cons_of_mem _ hy))
        clear hxs
        go_wp2_with (at_builtin; refine wpList_append_lies _ rfl _ _ _ rfl w.heap.size 9 i0 _ 1 16 Try.underlying90 hi0 hz0 hz1 hz2 rfl (by omega) (.slice oa O.length ocap) O.length (sV O) rfl (HO.out.alloc _) ⟨wr.heap.size, 0, none⟩ 1 1 [.string x] rfl rfl (World.news_of_block (cs := #[.string x]) (t := 9) (fr := (0, 0)) (heap_alloc_new _ _)) (by simp [Value.oneCell']) (by omega) hm1 hm2 (Nat.le_trans hbs (by rw [World.size_alloc]; exact Nat.le_succ _)) _ rfl ?_; intro g1 c1 w1 hown hgrow hat hltx; have HQ1 := Lib.hid (str_app HM.out HO.out hgrow hown); clear hown hgrow hat hltx)
        have HM1 := Lib.hid HQ1.out.1
        have HO1 := Lib.hid HQ1.out.2
        clear HQ1
        go_wp2_with fail
        go_roundw
        case rel => exact ⟨j + 1, O ++ [x], true, by omega, by simp; omega, by go_num, rfl, HE1, HD1, HM1, HO1⟩
        case measure => simp [intOf]; omega
      | false =>
        by_cases hge : sLt x s
        · have tge : Op.bytesLess x.toList s.toList = true := by rw [less_of]; exact decide_eq_true hge
          have tne : (x.toList == s.toList) = false := by rw [Bool.eq_false_iff]; intro h; have e := (eq_of x s).1 h; rw [e] at hge; exact sLt_irrefl s hge
          have HE1 := Lib.hid (show (O ++ [x]) ++ addG false (l.drop (j + 1)) s = R by rw [← HE.out, HDR.out]; simp [addG, addS_gt _ hge])
          clear hge
          go_wp2_with (at_builtin; refine wpList_append_lies _ rfl _ _ _ rfl w.heap.size 9 i0 _ 1 16 Try.underlying90 hi0 hz0 hz1 hz2 rfl (by omega) (.slice oa O.length ocap) O.length (sV O) rfl (HO.out.alloc _) ⟨wr.heap.size, 0, none⟩ 1 1 [.string x] rfl rfl (World.news_of_block (cs := #[.string x]) (t := 9) (fr := (0, 0)) (heap_alloc_new _ _)) (by simp [Value.oneCell']) (by omega) hm1 hm2 (Nat.le_trans hbs (by rw [World.size_alloc]; exact Nat.le_succ _)) _ rfl ?_; intro g1 c1 w1 hown hgrow hat hltx; have HQ1 := Lib.hid (str_app HM.out HO.out hgrow hown); clear hown hgrow hat hltx)
          have HM1 := Lib.hid HQ1.out.1
          have HO1 := Lib.hid HQ1.out.2
          clear HQ1
          go_wp2_with fail
          go_roundw
          case rel => exact ⟨j + 1, O ++ [x], false, by omega, by simp; omega, by go_num, rfl, HE1, Lib.hid (fun h => by cases h), HM1, HO1⟩
          case measure => simp [intOf]; omega
        · have tge : Op.bytesLess x.toList s.toList = false := by rw [less_of]; exact decide_eq_false hge
          by_cases hxs : x = s
          · have tne : (x.toList == s.toList) = true := (eq_of x s).2 hxs
            have HE1 := Lib.hid (show (O ++ [s]) ++ addG true (l.drop (j + 1)) s = R by rw [← HE.out, HDR.out, hxs]; simp [addG, addS_eq])
            have HD1 := Lib.hid (show (true = true) → ∀ y ∈ l.drop (j + 1), y ≠ s from fun _ y hy e => by have := HAJ.out y hy; rw [e, hxs] at this; exact sLt_irrefl s this)
            clear hxs hge
            go_wp2_with (at_builtin; refine wpList_append_lies _ rfl _ _ _ rfl w.heap.size 9 i0 _ 1 16 Try.underlying90 hi0 hz0 hz1 hz2 rfl (by omega) (.slice oa O.length ocap) O.length (sV O) rfl (HO.out.alloc _) ⟨wr.heap.size, 0, none⟩ 1 1 [.string s] rfl rfl (World.news_of_block (cs := #[.string s]) (t := 9) (fr := (0, 0)) (heap_alloc_new _ _)) (by simp [Value.oneCell']) (by omega) hm1 hm2 (Nat.le_trans hbs (by rw [World.size_alloc]; exact Nat.le_succ _)) _ rfl ?_; intro g1 c1 w1 hown hgrow hat hltx; have HQ1 := Lib.hid (str_app HM.out HO.out hgrow hown); clear hown hgrow hat hltx)
            have HM1 := Lib.hid HQ1.out.1
            have HO1 := Lib.hid HQ1.out.2
            clear HQ1
            go_wp2_with fail
            go_roundw
            case rel => exact ⟨j + 1, O ++ [s], true, by omega, by simp; omega, by go_num, rfl, HE1, HD1, HM1, HO1⟩
            case measure => simp [intOf]; omega
          · have tne : (x.toList == s.toList) = false := by rw [Bool.eq_false_iff]; intro h; exact hxs ((eq_of x s).1 h)
            have hsx := sLt_tri hge hxs
            have HE1 := Lib.hid (show ((O ++ [s]) ++ [x]) ++ addG true (l.drop (j + 1)) s = R by rw [← HE.out, HDR.out]; simp [addG, addS_lt _ hsx])
            have HD1 := Lib.hid (show (true = true) → ∀ y ∈ l.drop (j + 1), y ≠ s from fun _ y hy e => by have := HAJ.out y hy; rw [e] at this; exact sLt_irrefl s (sLt_trans hsx this))
            clear hxs hge hsx
            have hm3 : O.length + 1 + 1 ≤ maxLen := by unfold maxLen; omega
            have hm4 : (O.length + 1 + 1) * 16 ≤ 140737488355328 := by omega
            go_wp2_with (first | (at_builtin; refine wpList_append_lies _ rfl _ _ _ rfl w.heap.size 9 i0 _ 1 16 Try.underlying90 hi0 hz0 hz1 hz2 rfl (by omega) (.slice (some ⟨g1, 0, none⟩) (O.length + 1) c1) (O.length + 1) (sV O ++ [.string s]) rfl (HOW1.out.alloc _) ⟨w1.heap.size, 0, none⟩ 1 1 [.string x] rfl rfl (World.news_of_block (cs := #[.string x]) (t := 9) (fr := (0, 0)) (heap_alloc_new _ _)) (by simp [Value.oneCell']) (by omega) hm3 hm4 (Nat.le_trans HM1.out.size (by rw [World.size_alloc]; exact Nat.le_succ _)) _ rfl ?_; intro g2 c2 w2 hown hgrow hat hltx; have HQ2 := Lib.hid (str_app2 HM1.out HOW1.out hgrow hown); clear hown hgrow hat hltx) | (at_builtin; refine wpList_append_lies _ rfl _ _ _ rfl w.heap.size 9 i0 _ 1 16 Try.underlying90 hi0 hz0 hz1 hz2 rfl (by omega) (.slice oa O.length ocap) O.length (sV O) rfl (HO.out.alloc _) ⟨wr.heap.size, 0, none⟩ 1 1 [.string s] rfl rfl (World.news_of_block (cs := #[.string s]) (t := 9) (fr := (0, 0)) (heap_alloc_new _ _)) (by simp [Value.oneCell']) (by omega) hm1 hm2 (Nat.le_trans hbs (by rw [World.size_alloc]; exact Nat.le_succ _)) _ rfl ?_; intro g1 c1 w1 hown hgrow hat hltx; have HM1 := Lib.hid (str_app HM.out HO.out hgrow hown).1; have HOW1 := Lib.hid hown; clear hown hgrow hat hltx))
            have HM2 := Lib.hid HQ2.out.1
            have HO2 := Lib.hid HQ2.out.2
            clear HQ2 HOW1 HM1
            go_wp2_with fail
            go_roundw
            case rel => exact ⟨j + 1, O ++ [s] ++ [x], true, by omega, by simp; omega, by go_num, rfl, HE1, HD1, HM2, HO2⟩
            case measure => simp [intOf]; omega
    · have HDN := Lib.hid (show l.drop j = [] from List.drop_of_length_le (by omega))
      cases dn with
      | true =>
        have HF := Lib.hid (show O = R by rw [← HE.out, HDN.out]; simp [addG])
        go_wp2_with fail
        go_ret
        exact ⟨HM.out, oa, ocap, by rw [← HF.out]; rfl, by rw [← HF.out]; exact HO.out⟩
      | false =>
        have HF := Lib.hid (show O ++ [s] = R by rw [← HE.out, HDN.out]; simp [addG, addS])
        go_wp2_with (at_builtin; refine wpList_append_lies _ rfl _ _ _ rfl w.heap.size 9 i0 _ 1 16 Try.underlying90 hi0 hz0 hz1 hz2 rfl (by omega) (.slice oa O.length ocap) O.length (sV O) rfl (HO.out.alloc _) ⟨wr.heap.size, 0, none⟩ 1 1 [.string s] rfl rfl (World.news_of_block (cs := #[.string s]) (t := 9) (fr := (0, 0)) (heap_alloc_new _ _)) (by simp [Value.oneCell']) (by omega) hm1 hm2 (Nat.le_trans hbs (by rw [World.size_alloc]; exact Nat.le_succ _)) _ rfl ?_; intro g1 c1 w1 hown hgrow hat hltx; have HQ1 := Lib.hid (str_app HM.out HO.out hgrow hown); clear hown hgrow hat hltx)
        have HM1 := Lib.hid HQ1.out.1
        have HO1 := Lib.hid HQ1.out.2
        clear HQ1
        go_wp2_with fail
        go_ret
        exact ⟨HM1.out, _, c1, by rw [← HF.out, List.length_append]; rfl, by rw [← HF.out, List.length_append]; have := HO1.out; rw [List.length_append] at this; exact this⟩
end Go.Proofs.Ytekhoanjpnjaeaa
