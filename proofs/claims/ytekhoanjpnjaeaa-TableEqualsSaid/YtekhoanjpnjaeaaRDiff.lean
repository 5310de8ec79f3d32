/- rootcauseref09.Diff (42). -/
import Derived.Test.YtekhoanjpnjaeaaDiff
import Derived.Test.YtekhoanjpnjaeaaRefTab
namespace Go.Proofs.Ytekhoanjpnjaeaa
open Go.RowKit

theorem unionL_take (l m : List (Int × Int)) (j : Nat) (hj : j < m.length) : unionL l (m.take (j + 1)) = if (getL l m[j].1).isSome = true then unionL l (m.take j) else putL (unionL l (m.take j)) m[j].1 0 := by
  unfold unionL
  rw [List.take_succ_eq_append_getElem hj, List.foldl_append]
  rfl
theorem unionL_take_len (l m : List (Int × Int)) (j : Nat) : (unionL l (m.take j)).length ≤ l.length + j := by
  have := unionL_len l (m.take j)
  have := List.length_take_le j m
  omega
/-- What the document's second loop has collected behind j rounds. -/
def diffU (l m U : List (Int × Int)) (j : Nat) : List Int := ((U.take j).filter fun x => diffB l m x.1).map (·.1)
theorem diffU_succ (l m U : List (Int × Int)) (j : Nat) (hj : j < U.length) : diffU l m U (j + 1) = if diffB l m U[j].1 = true then diffU l m U j ++ [U[j].1] else diffU l m U j := by
  unfold diffU
  rw [List.take_succ_eq_append_getElem hj, List.filter_append, List.map_append]
  by_cases h : diffB l m U[j].1 = true
  · rw [if_pos h]; simp [List.filter_cons, h]
  · rw [if_neg h]; simp [List.filter_cons, h]
theorem diffU_len (l m U : List (Int × Int)) (j : Nat) : (diffU l m U j).length ≤ j := by
  unfold diffU
  rw [List.length_map]
  exact Nat.le_trans (List.length_filter_le _ _) (List.length_take_le _ _)
theorem diffU_end (l m : List (Int × Int)) (j : Nat) (h : ¬ j < (unionL l m).length) : diffU l m (unionL l m) j = diffR l m := by
  unfold diffU diffR
  rw [List.take_of_length_le (by omega)]
theorem app_key {w wr w2 : World} {O : List Int} {k : Int} {oa : Option Addr} {ocap g cap : Nat} {ob : Obj} (hM : More w wr) (hO : wr.ownsRow w.heap.size 2 1 (.slice oa O.length ocap) O.length (keyV O))
    (hgrow : (wr.alloc ob).grownBy w2 (Value.slice oa O.length ocap).ownBlock) (hown : w2.ownsRow w.heap.size 2 1 (.slice (some ⟨g, 0, none⟩) (O.length + 1) cap) (O.length + 1) (keyV O ++ [.int .i64 k])) :
    More w w2 ∧ w2.ownsRow w.heap.size 2 1 (.slice (some ⟨g, 0, none⟩) (O.length + 1) cap) (O ++ [k]).length (keyV (O ++ [k])) :=
  diff_app (n := 0) hM hO hgrow hown

set_option maxRecDepth 100000 in
set_option maxHeartbeats 1000000 in
theorem rdiff_any (S S' : Nat → Prop) (l m : List (Int × Int)) (v v' : Value) (w : World) (hl : l.length < 1000000) (hm : m.length < 1000000) (hasc : Asc l) (h : Row S w 2 l.length v (flat2 l)) (h' : Row S' w 2 m.length v' (flat2 m)) :
    Calls Try.prog 42 #[v, v'] w fun e w' => More w w' ∧ ∃ v, e = .returned v ∧ Row (fun _ => True) w' 1 (diffR l m).length v (keyV (diffR l m)) := by
  obtain ⟨a, cap, rfl, hcap⟩ := h.shape
  obtain ⟨a', cap', rfl, hcap'⟩ := h'.shape
  have HR := Lib.hid (show Row (fun _ => True) w 2 l.length (.slice a l.length cap) (flat2 l) from h.mono (fun _ _ => trivial) (fun _ _ _ _ h => h)); clear h
  have HR' := Lib.hid (show Row (fun _ => True) w 2 m.length (.slice a' m.length cap') (flat2 m) from h'.mono (fun _ _ => trivial) (fun _ _ _ _ h => h)); clear h'
  have HASC := Lib.hid hasc; clear hasc
  obtain ⟨i0, hi0, hz0, hz1, hz2⟩ := info_parts Try.info2
  go_enter Try.func42, Try.ntmps42
  go_wp2_with fail
  go_loopw [6, 20] (fun o i wr => ∃ j : Nat, j ≤ m.length ∧ i = .int .i64 j ∧ Hid (More w wr) ∧ Hid (Row (fun _ => True) wr 2 (unionL l (m.take j)).length o (flat2 (unionL l (m.take j))))) (fun _ i _ => m.length - (intOf i).toNat)
  case atStart => exact ⟨0, Nat.zero_le _, rfl, Lib.hid (World.grownBy.refl _ _), HR⟩
  case round =>
    obtain ⟨j, hj, rfl, HM, HO⟩ := hrel
    obtain ⟨oa, ocap, rfl, _⟩ := HO.out.shape
    by_cases hlt : j < m.length
    · obtain ⟨b, off, rfl, _, _, hc⟩ := HR'.out.at (by omega)
      have g0 := HM.out.cell (hc _ _ (flat2_get m j hlt).1)
      have g1 := HM.out.cell (hc _ _ (flat2_get m j hlt).2)
      rw [← Nat.add_assoc] at g1
      clear hc
      have hbg := cell_lt g0
      have HT := Lib.hid (unionL_take l m j hlt)
      have hL := unionL_take_len l m j
      have HA := Lib.hid (union_facts l HASC.out (m.take j)).1
      generalize unionL l (m.take j) = O at *
      generalize m[j] = x at *
      go_wp2_with fail
      have hm1 : More wr (wr.alloc (.cells #[.int .i64 x.1, .int .i64 x.2] 66)) := World.grownBy_alloc _ _ _
      have c1 : (wr.alloc (.cells #[.int .i64 x.1, .int .i64 x.2] 66)).cell? ⟨wr.heap.size, 0, none⟩ = some (.int .i64 x.1) := by go_simp
      generalize wr.alloc (.cells #[.int .i64 x.1, .int .i64 x.2] 66) = w1 at *
      have HM1 := Lib.hid (more_trans HM.out hm1)
      have HO1 := Lib.hid (HO.out.below hm1.below)
      clear hm1 g0 g1 hbg
      refine (rget_any (fun _ => True) l x.1 (.slice a l.length cap) w1 (by omega) (HR.out.below HM1.out.below)).mono ?_
      rintro e w2 ⟨hb2, rfl⟩
      have c2 := (more_of hb2).cell c1
      have HM2 := Lib.hid (more_trans HM1.out (more_of hb2))
      have HO2 := Lib.hid (HO1.out.below hb2)
      clear hb2 c1
      obtain ⟨og, hog⟩ : ∃ og, getL l x.1 = og := ⟨_, rfl⟩
      rw [hog]
      rw [hog] at HT
      clear hog
      cases og with
      | some gv =>
        have HT2 := Lib.hid (show unionL l (m.take (j + 1)) = O by rw [HT.out]; rfl)
        go_wp2_with fail
        go_roundw
        case rel => exact ⟨j + 1, by omega, by go_num, HM2, Lib.hid (by rw [HT2.out]; exact HO2.out)⟩
        case measure => simp [intOf]; omega
      | none =>
        have HT2 := Lib.hid (show unionL l (m.take (j + 1)) = putL O x.1 0 by rw [HT.out]; rfl)
        go_wp2_with fail
        refine (rput_any (fun _ => True) O x.1 0 (.slice oa O.length ocap) w2 (by omega) HA.out HO2.out).mono ?_
        rintro e w3 ⟨hb3, v3, rfl, hr3⟩
        have HM3 := Lib.hid (more_trans HM2.out (more_of hb3))
        have HO3 := Lib.hid (show Row (fun _ => True) w3 2 (putL O x.1 0).length v3 (flat2 (putL O x.1 0)) from hr3.mono (fun _ _ => trivial) (fun _ _ _ _ h => h))
        clear hb3 hr3
        go_wp2_with fail
        go_roundw
        case rel => exact ⟨j + 1, by omega, by go_num, HM3, Lib.hid (by rw [HT2.out]; exact HO3.out)⟩
        case measure => simp [intOf]; omega
    · have HE := Lib.hid (show m.take j = m from List.take_of_length_le (by omega))
      rw [HE.out] at HO
      rw [HE.out]
      have hL := unionL_len l m
      have HEND := Lib.hid (fun k (h : ¬ k < (unionL l m).length) => diffU_end l m k h)
      generalize unionL l m = U at *
      obtain ⟨wo, rfl⟩ : ∃ wo : World, wo = wr := ⟨_, rfl⟩
      go_wp2_with fail
      clear hlt hj HE
      go_loopw [5, 40] (fun o i wr => ∃ j : Nat, j ≤ U.length ∧ i = .int .i64 j ∧ Hid (More wo wr) ∧ Hid (wr.ownsRow wo.heap.size 2 1 o (diffU l m U j).length (keyV (diffU l m U j)))) (fun _ i _ => U.length - (intOf i).toNat)
      case atStart => exact ⟨0, Nat.zero_le _, rfl, Lib.hid (World.grownBy.refl _ _), Lib.hid ⟨rfl, Or.inl ⟨rfl, rfl⟩⟩⟩
      case round =>
        obtain ⟨k, hk, rfl, HN, HD⟩ := hrel
        obtain ⟨da, dcap, rfl, hoo⟩ := owns_shape HD.out
        have HOO := Lib.hid hoo; clear hoo
        by_cases hlt : k < U.length
        · obtain ⟨b, off, rfl, _, _, hc⟩ := HO.out.at (by omega)
          have g0 := HN.out.cell (hc _ _ (flat2_get U k hlt).1)
          have g1 := HN.out.cell (hc _ _ (flat2_get U k hlt).2)
          rw [← Nat.add_assoc] at g1
          clear hc
          have hbg := cell_lt g0
          have HT := Lib.hid (diffU_succ l m U k hlt)
          have hD := diffU_len l m U k
          generalize diffU l m U k = O at *
          generalize U[k] = x at *
          go_wp2_with fail
          have hm1 : More wr (wr.alloc (.cells #[.int .i64 x.1, .int .i64 x.2] 66)) := World.grownBy_alloc _ _ _
          have c1 : (wr.alloc (.cells #[.int .i64 x.1, .int .i64 x.2] 66)).cell? ⟨wr.heap.size, 0, none⟩ = some (.int .i64 x.1) := by go_simp
          generalize wr.alloc (.cells #[.int .i64 x.1, .int .i64 x.2] 66) = w1 at *
          have HN1 := Lib.hid (more_trans HN.out hm1)
          have Hm1 := Lib.hid hm1
          clear hm1 g0 g1 hbg
          refine (rget_any (fun _ => True) l x.1 (.slice a l.length cap) w1 (by omega) (HR.out.below (more_trans HM.out HN1.out).below)).mono ?_
          rintro e w2 ⟨hb2, rfl⟩
          have c2 := (more_of hb2).cell c1
          have HN2 := Lib.hid (more_trans HN1.out (more_of hb2))
          have Hm2 := Lib.hid (more_trans Hm1.out (more_of hb2))
          clear hb2 c1
          obtain ⟨n1, hn1⟩ : ∃ n1, (getL l x.1).getD 0 = n1 := ⟨_, rfl⟩
          obtain ⟨p1, hp1⟩ : ∃ p1, (getL l x.1).isSome = p1 := ⟨_, rfl⟩
          rw [hn1, hp1]
          have HN1E := Lib.hid hn1; have HP1E := Lib.hid hp1; clear hn1 hp1
          go_wp2_with fail
          refine (rget_any (fun _ => True) m x.1 (.slice a' m.length cap') w2 (by omega) (HR'.out.below (more_trans HM.out HN2.out).below)).mono ?_
          rintro e w3 ⟨hb3, rfl⟩
          have c3 := (more_of hb3).cell c2
          have hbc := cell_lt c3
          have HN3 := Lib.hid (more_trans HN2.out (more_of hb3))
          have Hm3 := Lib.hid (more_trans Hm2.out (more_of hb3))
          clear hb3 c2
          obtain ⟨n2, hn2⟩ : ∃ n2, (getL m x.1).getD 0 = n2 := ⟨_, rfl⟩
          obtain ⟨p2, hp2⟩ : ∃ p2, (getL m x.1).isSome = p2 := ⟨_, rfl⟩
          rw [hn2, hp2]
          have HDB := Lib.hid (show diffB l m x.1 = !(p1 == p2 && n1 == n2) by unfold diffB; rw [HN1E.out, HP1E.out, hn2, hp2])
          clear hn2 hp2 HN1E HP1E
          have HD3 := Lib.hid (owns_keep (w' := w3) HD.out (fun y hy => Hm3.out.block (HOO.out y hy).2))
          have hs3 := HN3.out.size
          have hle1 : O.length + 1 ≤ maxLen := by unfold maxLen; omega
          have hle2 : (O.length + 1) * 8 ≤ 140737488355328 := by omega
          by_cases hp : p1 = p2
          · subst hp
            by_cases hn : n1 = n2
            · subst hn
              have HT2 := Lib.hid (show diffU l m U (k + 1) = O by rw [HT.out, HDB.out]; simp)
              go_wp2_with fail
              go_roundw
              case rel => exact ⟨k + 1, by omega, by go_num, HN3, Lib.hid (by rw [HT2.out]; exact HD3.out)⟩
              case measure => simp [intOf]; omega
            · have t2 : (n1 != n2) = true := by simp [hn]
              have HT2 := Lib.hid (show diffU l m U (k + 1) = O ++ [x.1] by rw [HT.out, HDB.out]; simp [hn])
              go_wp2_with (at_builtin; refine wpList_append_lies _ rfl _ _ _ rfl wo.heap.size 2 i0 _ 1 8 Try.underlying73 hi0 hz0 hz1 hz2 rfl (by omega) (.slice da O.length dcap) O.length (keyV O) rfl (HD3.out.alloc _) ⟨w3.heap.size, 0, none⟩ 1 1 [.int .i64 x.1] rfl rfl (World.news_of_block (cs := #[.int .i64 x.1]) (t := 2) (fr := (0, 0)) (heap_alloc_new _ _)) (by simp [Value.oneCell']) (by omega) hle1 hle2 (Nat.le_trans hs3 (by rw [World.size_alloc]; exact Nat.le_succ _)) _ rfl ?_; intro gg2 cap2 w4 hown2 hgrow2 hat2 hlt2)
              obtain ⟨hm4, ho4⟩ := app_key HN3.out HD3.out hgrow2 hown2
              have HM4 := Lib.hid hm4
              have HO4 := Lib.hid ho4
              clear hown2 hgrow2 hat2 hlt2 hm4 ho4
              go_wp2_with fail
              go_roundw
              case rel => exact ⟨k + 1, by omega, by go_num, HM4, Lib.hid (by rw [HT2.out]; exact HO4.out)⟩
              case measure => simp [intOf]; omega
          · have t1 : (p1 != p2) = true := by simp [hp]
            have HT2 := Lib.hid (show diffU l m U (k + 1) = O ++ [x.1] by rw [HT.out, HDB.out]; simp [hp])
            go_wp2_with (at_builtin; refine wpList_append_lies _ rfl _ _ _ rfl wo.heap.size 2 i0 _ 1 8 Try.underlying73 hi0 hz0 hz1 hz2 rfl (by omega) (.slice da O.length dcap) O.length (keyV O) rfl (HD3.out.alloc _) ⟨w3.heap.size, 0, none⟩ 1 1 [.int .i64 x.1] rfl rfl (World.news_of_block (cs := #[.int .i64 x.1]) (t := 2) (fr := (0, 0)) (heap_alloc_new _ _)) (by simp [Value.oneCell']) (by omega) hle1 hle2 (Nat.le_trans hs3 (by rw [World.size_alloc]; exact Nat.le_succ _)) _ rfl ?_; intro gg2 cap2 w4 hown2 hgrow2 hat2 hlt2)
            obtain ⟨hm4, ho4⟩ := app_key HN3.out HD3.out hgrow2 hown2
            have HM4 := Lib.hid hm4
            have HO4 := Lib.hid ho4
            clear hown2 hgrow2 hat2 hlt2 hm4 ho4
            go_wp2_with fail
            go_roundw
            case rel => exact ⟨k + 1, by omega, by go_num, HM4, Lib.hid (by rw [HT2.out]; exact HO4.out)⟩
            case measure => simp [intOf]; omega
        · have HE := Lib.hid (HEND.out k hlt)
          rw [HE.out] at HD
          rw [HE.out] at HOO
          rw [HE.out]
          go_wp2_with fail
          go_ret
          exact ⟨more_trans HM.out HN.out, _, rfl, (Row.of_owns HD.out).mono (fun _ _ => trivial) (fun _ _ _ _ h => h)⟩
end Go.Proofs.Ytekhoanjpnjaeaa
