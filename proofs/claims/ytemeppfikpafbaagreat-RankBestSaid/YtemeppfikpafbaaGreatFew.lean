/- The law's few (20). -/
import Derived.Test.YtemeppfikpafbaaGreatRefDeg
import Derived.StillTailTactics
namespace Go.Proofs.YtemeppfikpafbaaGreat
open Go.RowKit
def Cau.cut (c : Cau) : Cau := ⟨c.undo.take 4, c.hold.take 4⟩
def fewL (l : List Cau) : List Cau := (l.take 8).map Cau.cut
theorem slice27 (a : Option Addr) (n cap p : Nat) (hp : p ≤ n) (hc : n ≤ cap) (hnil : a = none → cap = 0) : ∀ w, (Instr.slice 31 (.slice a n cap) none (some (.int .i64 (p : Int))) none).run Tryz.prog w = .ok (.slice a p cap) w := by
  intro w
  cases a with
  | none =>
    obtain rfl := hnil rfl
    obtain rfl : p = 0 := by omega
    simp [go_sem, sliced]
  | some ad =>
    simp [go_sem, sliced]
    omega
theorem slice28 (a : Option Addr) (n cap p : Nat) (hp : p ≤ n) (hc : n ≤ cap) (hnil : a = none → cap = 0) : ∀ w, (Instr.slice 32 (.slice a n cap) none (some (.int .i64 (p : Int))) none).run Tryz.prog w = .ok (.slice a p cap) w := by
  intro w
  cases a with
  | none =>
    obtain rfl := hnil rfl
    obtain rfl : p = 0 := by omega
    simp [go_sem, sliced]
  | some ad =>
    simp [go_sem, sliced]
    omega
theorem info36 : (Tryz.prog.info? 66).map (fun i => (i.zero, i.size, i.bytes)) = some (some (.agg #[.slice none 0 0, .slice none 0 0]), 2, 48) := by kernel_rfl
/-- A list of causes that a row of pairs holds, as it is built. -/
def CVs (w : World) (l : List Cau) (vs : List (Value × Value)) : Prop :=
  vs.length = l.length ∧ ∀ (i : Nat) (h : i < l.length) (h' : i < vs.length), (Row anyB w 4 l[i].undo.length vs[i].1 (flatC kC l[i].undo) ∧ Row anyB w 3 l[i].hold.length vs[i].2 (flatC mC l[i].hold)) ∧ (∀ n c, (vs[i].1 = .slice none n c → c = 0) ∧ (vs[i].2 = .slice none n c → c = 0))
theorem CVs.nil (w : World) : CVs w [] [] := ⟨rfl, fun i h => by simp at h⟩
theorem CVs.below {w w' : World} {l : List Cau} {vs : List (Value × Value)} (h : CVs w l vs) (hb : Below w.heap.size w w') : CVs w' l vs :=
  ⟨h.1, fun i a b => ⟨⟨(h.2 i a b).1.1.below hb, (h.2 i a b).1.2.below hb⟩, (h.2 i a b).2⟩⟩
theorem CVs.push {w : World} {l : List Cau} {vs : List (Value × Value)} {c : Cau} {p : Value × Value} (h : CVs w l vs) (h1 : Row anyB w 4 c.undo.length p.1 (flatC kC c.undo)) (h2 : Row anyB w 3 c.hold.length p.2 (flatC mC c.hold)) (h3 : ∀ n c, (p.1 = .slice none n c → c = 0) ∧ (p.2 = .slice none n c → c = 0)) : CVs w (l ++ [c]) (vs ++ [p]) := by
  obtain ⟨hl, hh⟩ := h
  refine ⟨by simp [hl], fun i a b => ?_⟩
  rcases Nat.lt_or_ge i l.length with hi | hi
  · have e1 : (l ++ [c])[i] = l[i] := List.getElem_append_left hi
    have e2 : (vs ++ [p])[i] = vs[i]'(by omega) := List.getElem_append_left (by omega)
    rw [e1, e2]
    exact hh i hi (by omega)
  · have hi' : i = l.length := by simp at a; omega
    have e1 : (l ++ [c])[i] = c := by rw [List.getElem_append_right hi]; simp [hi']
    have e2 : (vs ++ [p])[i] = p := by rw [List.getElem_append_right (by omega)]; simp [hi', hl]
    rw [e1, e2]
    exact ⟨⟨h1, h2⟩, h3⟩
theorem CVs.row {w : World} {l : List Cau} {vs : List (Value × Value)} {v : Value} {B : Nat} {e : TypeId} (h : CVs w l vs) (ho : w.ownsRow B e 2 v vs.length (flatC pC vs)) : CRow w l v :=
  ⟨vs, h.1, by rw [← h.1]; exact (Row.of_owns ho).mono (fun _ _ => trivial) (fun _ _ _ _ h => h), h.2⟩
theorem Row.takeAny {α : Type} {c : α → List Value} {k : Nat} (hc : ∀ x, (c x).length = k) {S : Nat → Prop} {w : World} {l : List α} {a : Option Addr} {cap : Nat} (h : Row S w k l.length (.slice a l.length cap) (flatC c l)) (n : Nat) : Row S w k (l.take n).length (.slice a (l.take n).length cap) (flatC c (l.take n)) := by
  rcases Nat.le_total n l.length with hn | hn
  · exact h.takeC hc hn
  · rw [List.take_of_length_le hn]; exact h
set_option maxRecDepth 100000 in
set_option maxHeartbeats 2000000 in
theorem few_any (l : List Cau) (v : Value) (w : World) (_hl : l.length ≤ maxLen) (hlen : ∀ c ∈ l, c.undo.length ≤ maxLen ∧ c.hold.length ≤ maxLen) (h : CRow w l v) :
    Calls Tryz.prog 6 #[v] w fun e w' => (∃ v', e = .returned v' ∧ CRow w' (fewL l) v') ∧ Below w.heap.size w w' := by
  obtain ⟨a, cap, rfl, _⟩ := h.shape
  have HR := Lib.hid h; clear h
  have HLEN := Lib.hid hlen; clear hlen
  obtain ⟨i0, hi0, hz0, hz1, hz2⟩ := info_parts info36
  obtain ⟨N, hN⟩ : ∃ N, N = w.heap.size := ⟨_, rfl⟩
  have HN := Lib.hid hN
  rw [← hN]
  go_enter Tryz.func6, Tryz.ntmps6
  go_wp2_with fail
  clear hN
  go_loopw [3, 4] (fun v i wr => ∃ (j : Nat) (vs : List (Value × Value)), j ≤ l.length ∧ j ≤ 8 ∧ i = .int .i64 j ∧ Hid (Below N w wr) ∧ Hid (CVs w ((l.take j).map Cau.cut) vs) ∧ Hid (wr.ownsRow N 66 2 v vs.length (flatC pC vs))) (fun _ i _ => l.length - (intOf i).toNat)
  case atStart => exact ⟨0, [], Nat.zero_le _, Nat.zero_le _, rfl, Lib.hid (Below.refl _ _), Lib.hid (CVs.nil _), Lib.hid (World.ownsRow_nil _ _ _ _)⟩
  case round =>
    obtain ⟨j, vs, hj, hj8, rfl, HB, HV, HO⟩ := hrel
    have HBW := Lib.hid (show Below w.heap.size w wr by rw [← HN.out]; exact HB.out)
    have HNW := Lib.hid (show N ≤ wr.heap.size by rw [HN.out]; exact HBW.out.size)
    by_cases hlt : j < l.length ∧ j < 8
    · obtain ⟨hlt, hlt8⟩ := hlt
      have hlt8' : (j : Int) < 8 := by omega
      obtain ⟨b, off, ua, uc, ha, hc, rfl, g0, g1, hcu, hch, hn1, hn2⟩ := HR.out.at' hlt
      have HG := Lib.hid (And.intro g0 g1)
      have g0 := below_cell HBW.out g0
      have g1 := below_cell HBW.out g1
      have HL := Lib.hid (HLEN.out _ (List.getElem_mem hlt))
      have HT := Lib.hid (show (l.take (j + 1)).map Cau.cut = (l.take j).map Cau.cut ++ [l[j].cut] by rw [List.take_succ_eq_append_getElem hlt, List.map_append]; rfl)
      generalize l[j] = c at *
      have HVL := Lib.hid (show vs.length ≤ 8 by rw [HV.out.1, List.length_map, List.length_take]; omega)
      obtain ⟨_, uc', eu, huc⟩ := hcu.shape
      obtain ⟨_, hc', eh, hhc⟩ := hch.shape
      cases eu; cases eh
      have hpu : (c.undo.take 4).length ≤ c.undo.length := by rw [List.length_take]; exact Nat.min_le_right _ _
      have hph : (c.hold.take 4).length ≤ c.hold.length := by rw [List.length_take]; exact Nat.min_le_right _ _
      have HU := Lib.hid (hcu.takeAny kC_len 4)
      have HH := Lib.hid (hch.takeAny mC_len 4)
      have hs1 := slice27 ua c.undo.length uc (c.undo.take 4).length hpu huc hn1
      have hs2 := slice28 ha c.hold.length hc (c.hold.take 4).length hph hhc hn2
      have hmn1 : min (c.undo.length : Int) 4 = ((c.undo.take 4).length : Int) := by rw [List.length_take]; omega
      have hmn2 : min (c.hold.length : Int) 4 = ((c.hold.take 4).length : Int) := by rw [List.length_take]; omega
      have HC := Lib.hid (show c.cut = ⟨c.undo.take 4, c.hold.take 4⟩ from rfl)
      have HN12 := Lib.hid (And.intro hn1 hn2)
      have hlu := HL.out.1
      have hlh := HL.out.2
      unfold maxLen at hlu hlh
      clear hcu hch hn1 hn2
      generalize c.undo.take 4 = U at *
      generalize c.hold.take 4 = V at *
      generalize c.undo.length = nu at *
      generalize c.hold.length = nh at *
      have hbg := cell_lt g0
      have hu1 : ((U.length : Nat) : Int) ≤ nu := by omega
      have hv1 : ((V.length : Nat) : Int) ≤ nh := by omega
      obtain ⟨oa, ocap, rfl, _⟩ := owns_shape HO.out
      have hm1 : vs.length + 1 ≤ maxLen := by unfold maxLen; have := HVL.out; omega
      have hm2 : (vs.length + 1) * 48 ≤ 140737488355328 := by have := HVL.out; omega
      go_upto_region 5 with (fail)
      have hnw := HNW.out
      have HBA := Lib.hid (show Below N w (wr.alloc (.cells #[.slice ua U.length uc, .slice ha V.length hc] 66)).drew from (HB.out.alloc HNW.out (.cells #[.slice ua U.length uc, .slice ha V.length hc] 66)).trans (below_drewN _ 1 N))
      have HOWN := Lib.hid (fun z hz => ((owns_shape HO.out).choose_spec.choose_spec.2 z hz).1)
      have HOA := Lib.hid (owns_keep HO.out (fun z hz => Below.heap_alloc wr (.cells #[.slice ua U.length uc, .slice ha V.length hc] 66) _ ((owns_shape HO.out).choose_spec.choose_spec.2 z hz).2))
      have HNA := Lib.hid (show N ≤ (wr.alloc (.cells #[.slice ua U.length uc, .slice ha V.length hc] 66)).heap.size by rw [World.size_alloc]; omega)
      have k0 := alloc_cell (.cells #[.slice ua U.length uc, .slice ha V.length hc] 66) g0
      have k1 := alloc_cell (.cells #[.slice ua U.length uc, .slice ha V.length hc] 66) g1
      have HKEEP := Lib.hid (show ∀ W, Below N w W → W.cell? ⟨b, off + j * 2, none⟩ = some (.slice ua nu uc) ∧ W.cell? ⟨b, off + j * 2 + 1, none⟩ = some (.slice ha nh hc) from fun W h => by
        have h' : Below w.heap.size w W := by rw [← HN.out]; exact h
        exact ⟨below_cell h' HG.out.1, below_cell h' HG.out.2⟩)
      have HBd := Lib.hid (show Below N w wr.drew from HB.out.trans (below_drewN wr 1 N))
      have HB6 := HBA
      go_region_held3 (fun W => W.cell? ⟨b, off + j * 2, none⟩ = some (.slice ua nu uc) ∧ W.cell? ⟨b, off + j * 2 + 1, none⟩ = some (.slice ha nh hc)) (first | (with_reducible exact HKEEP.out _ HBd.out) | (with_reducible exact HKEEP.out _ HBA.out) | (with_reducible exact HKEEP.out _ HB6.out))
        ((refine step_append_lies _ (by rfl) _ _ _ (by rfl) N 66 i0 _ 2 48 Tryz.underlying22 hi0 hz0 hz1 hz2 (by rfl) (by omega) (.slice oa vs.length ocap) vs.length (flatC pC vs) (by rfl) HOA.out ⟨wr.heap.size, 0, none⟩ 1 1 [.slice ua U.length uc, .slice ha V.length hc] (by rfl) (by rfl) (World.news_of_block (cs := #[.slice ua U.length uc, .slice ha V.length hc]) (t := 66) (fr := (0, 0)) (alloc_last wr _)) (by simp [Value.oneCell']) (by omega) hm1 hm2 HNA.out (wr.heap.size + 1) (by simp) ?_; intro gg cap6 w6 hown6 hgrow6 hat6 hlt6; have HB6 := Lib.hid (HBA.out.grown hgrow6 HNA.out HOWN.out)))
      all_goals
        clear k0 k1 g0 g1 hs1 hs2 hmn1 hmn2
        have HO6 := Lib.hid hown6
        clear hown6 hgrow6
        go_wp2_with fail
        go_roundw
        case rel =>
          refine ⟨j + 1, vs ++ [(.slice ua U.length uc, .slice ha V.length hc)], by omega, by omega, by go_num, HB6, Lib.hid ?_, Lib.hid ?_⟩
          · rw [HT.out, HC.out]
            exact HV.out.push HU.out HH.out (fun n c => ⟨fun e => by cases e; exact HN12.out.1 rfl, fun e => by cases e; exact HN12.out.2 rfl⟩)
          · rw [flatC_push, List.length_append]
            exact HO6.out
        case measure => simp [intOf]; omega
    · have HEQ := Lib.hid (show (l.take j).map Cau.cut = fewL l by
        unfold fewL
        by_cases h : j = l.length
        · rw [h, List.take_of_length_le (Nat.le_refl _), List.take_of_length_le (by omega)]
        · rw [show j = 8 by omega])
      have HFIN := Lib.hid (show ∃ v', _ = v' ∧ CRow wr (fewL l) v' from ⟨_, rfl, by
        have := HV.out.below HBW.out
        rw [HEQ.out] at this
        exact this.row HO.out⟩)
      by_cases hj1 : j < l.length
      · have h8 : (8 : Int) ≤ (j : Int) := by omega
        clear hlt
        go_wp2_with fail
        go_ret
        obtain ⟨v', e, hc⟩ := HFIN.out
        exact ⟨⟨_, rfl, by rw [e]; exact hc⟩, HB.out⟩
      · have h8 : (l.length : Int) ≤ (j : Int) := by omega
        clear hlt
        go_wp2_with fail
        go_ret
        obtain ⟨v', e, hc⟩ := HFIN.out
        exact ⟨⟨_, rfl, by rw [e]; exact hc⟩, HB.out⟩
end Go.Proofs.YtemeppfikpafbaaGreat
