/- rootcauselaw10.Env (52). -/
import Derived.Test.YtekhoanjpnjaeaaSmall
namespace Go.Proofs.Ytekhoanjpnjaeaa
open Go.RowKit

/-- The environment as the program has it: each table by ascending key. -/
def progE (e : EnvD) : EnvD := ⟨e.names, e.vals, e.tnames, e.tabs.map ofL, e.now⟩

structure EnvInv (w : World) (e : EnvD) (c1 c2 c3 : Value) (k : Nat) (ov : Value) (xs : List Value) (wr : World) : Prop where
  inv : OutInv 97 54 w c1 c2 c3 e.now xs wr
  hov : wr.heap[w.heap.size + 1 + 1]? = some (.cells #[c1, c2, c3, ov, .int .i64 e.now] 97)
  own : wr.ownsRow (w.heap.size + 1 + 1 + 1) 54 1 ov xs.length xs
  len : xs.length = k
  rows : ∀ i (h : i < e.tabs.length), i < k → ∃ tv, xs[i]? = some tv ∧ Row (fun x => w.heap.size + 1 + 1 + 1 ≤ x ∧ ov.ownBlock ≠ some x) wr 2 (ofL e.tabs[i]).length tv (flat2 (ofL e.tabs[i]))
theorem EnvInv.start (w : World) (o : Obj) (e : EnvD) (c1 c2 c3 : Value) : EnvInv w e c1 c2 c3 0 (.slice none 0 0) [] (((w.alloc o).alloc (.cells #[.slice none 0 0, .slice none 0 0, .slice none 0 0, .slice none 0 0, .int .i64 0] 97)).alloc (.cells #[c1, c2, c3, .slice none 0 0, .int .i64 e.now] 97)) :=
  ⟨OutInv.start 97 54 w o c1 c2 c3 e.now, alloc_at _ _ (by simp), ⟨rfl, Or.inl ⟨rfl, rfl⟩⟩, rfl, fun _ _ h => absurd h (Nat.not_lt_zero _)⟩
theorem EnvInv.step {w wr w1 w2 : World} {e : EnvD} {c1 c2 c3 ov tv : Value} {k gg cap : Nat} {xs : List Value} {o : Obj} (hI : EnvInv w e c1 c2 c3 k ov xs wr) (hk : k < e.tabs.length) (h1 : More wr w1)
    (hr : Row (fun x => wr.heap.size ≤ x) w1 2 (ofL e.tabs[k]).length tv (flat2 (ofL e.tabs[k]))) (hg : (w1.alloc o).grownBy w2 ov.ownBlock)
    (ho : w2.ownsRow (w.heap.size + 1 + 1 + 1) 54 1 (.slice (some ⟨gg, 0, none⟩) (xs.length + 1) cap) (xs.length + 1) (xs ++ [tv])) (hat : ov.ownBlock = some gg ∨ gg = w1.heap.size + 1) :
    EnvInv w e c1 c2 c3 (k + 1) (.slice (some ⟨gg, 0, none⟩) (xs.length + 1) cap) (xs ++ [tv]) (w2.setCell ⟨w.heap.size + 1 + 1, 3, none⟩ (.slice (some ⟨gg, 0, none⟩) (xs.length + 1) cap)) := by
  have hs := hI.inv.size
  have hs1 := h1.size
  have hs2 := hg.size
  rw [World.size_alloc] at hs2
  obtain ⟨oa, ocap, hov', hon⟩ := owns_shape hI.own
  have hgg : w.heap.size + 1 + 1 + 1 ≤ gg := by
    rcases hat with h | h
    · exact (hon _ h).1
    · omega
  have hown' : ∀ y, (Value.slice (some ⟨gg, 0, none⟩) (xs.length + 1) cap).ownBlock = some y → y = gg := fun y hy => by
    have : gg = y := by simpa [Value.ownBlock] using hy
    exact this.symm
  have hI2 := hI.inv.step (x := tv) hI.hov h1 hg ho (fun y hy => (hon y hy).1) (fun y hy => by rw [hown' y hy]; exact hgg)
  have cellK : ∀ x oo v, w.heap.size + 1 + 1 + 1 ≤ x → ov.ownBlock ≠ some x → x ≠ gg → w1.cell? ⟨x, oo, none⟩ = some v → (w.heap.size + 1 + 1 + 1 ≤ x ∧ (Value.slice (some ⟨gg, 0, none⟩) (xs.length + 1) cap).ownBlock ≠ some x) ∧ (w2.setCell ⟨w.heap.size + 1 + 1, 3, none⟩ (.slice (some ⟨gg, 0, none⟩) (xs.length + 1) cap)).cell? ⟨x, oo, none⟩ = some v := by
    intro x oo v hx hne hng hv
    refine ⟨⟨hx, fun e => hng (hown' x e)⟩, ?_⟩
    have hlt := cell_lt hv
    have e1 : (w2.setCell ⟨w.heap.size + 1 + 1, 3, none⟩ (.slice (some ⟨gg, 0, none⟩) (xs.length + 1) cap)).heap[x]? = w1.heap[x]? := by
      rw [Below.heap_setCell _ _ _ _ (by simp; omega), hg.block x (by rw [World.size_alloc]; omega) (fun e => hne e.symm), Below.heap_alloc _ _ _ hlt]
    exact (World.cell?_of_block (w := w1) (a := ⟨x, oo, none⟩) e1).trans hv
  refine ⟨hI2, ?_, ?_, by rw [List.length_append, hI.len]; rfl, fun i hi hik => ?_⟩
  · have e2 : w2.heap[w.heap.size + 1 + 1]? = wr.heap[w.heap.size + 1 + 1]? := by
      rw [hg.block _ (by rw [World.size_alloc]; omega) (fun e => by have := (hon _ e.symm).1; omega), Below.heap_alloc _ _ _ (by omega)]
      exact h1.block (by omega)
    exact heap_setCell_same _ _ _ _ _ _ (e2.trans hI.hov)
  · rw [List.length_append]
    exact owns_keep ho (fun y hy => Below.heap_setCell _ _ _ _ (by rw [hown' y hy]; simp; omega))
  · have hxl := hI.len
    by_cases e : i = k
    · subst e
      refine ⟨tv, by rw [List.getElem?_append_right (by omega)]; simp [hxl], hr.mono2 (by omega) (fun x oo v hx hv => ?_)⟩
      have hlt := cell_lt hv
      exact cellK x oo v (by omega) (fun e => by have := (hon _ e).2; omega) (by
        rcases hat with h | h
        · have := (hon _ h).2; omega
        · omega) hv
    · obtain ⟨tv', h2, h3⟩ := hI.rows i hi (by omega)
      refine ⟨tv', by rw [List.getElem?_append_left (by omega)]; exact h2, h3.mono2 (by omega) (fun x oo v hx hv => ?_)⟩
      have hlt := cell_lt hv
      exact cellK x oo v hx.1 hx.2 (fun e => by
        rcases hat with h | h
        · exact hx.2 (by rw [h, e])
        · omega) (h1.cell hv)

theorem Try.info54 : (Try.prog.info? 54).map (fun i => (i.zero, i.size, i.bytes)) = some (some (.agg #[.slice none 0 0]), 1, 24) := by kernel_rfl
theorem Try.info66 : (Try.prog.info? 66).map (fun i => (i.zero, i.size, i.bytes)) = some (some (.agg #[.int .i64 0, .int .i64 0]), 2, 16) := by kernel_rfl

set_option maxHeartbeats 2000000 in
set_option maxRecDepth 100000 in
theorem env_any (S : Nat → Prop) (e : EnvD) (c1 c2 c3 c4 : Value) (w : World) (hE : EnvRep S w e c1 c2 c3 c4) (h16 : ∀ t ∈ e.tabs, t.length ≤ 20) :
    Calls Try.prog 52 #[aggE e c1 c2 c3 c4] w fun r w' => Below w.heap.size w w' ∧ ∃ d4, r = .returned (aggE (progE e) c1 c2 c3 d4) ∧ EnvRep (fun _ => True) w' (progE e) c1 c2 c3 d4 ∧ ∀ t ∈ (progE e).tabs, Asc t := by
  obtain ⟨a1, cap1, rfl, hc1⟩ := hE.names.shape
  obtain ⟨a2, cap2, rfl, hc2⟩ := hE.vals.shape
  obtain ⟨a3, cap3, rfl, hc3⟩ := hE.tnames.shape
  obtain ⟨ts, hts, htv⟩ := hE.tabs
  obtain ⟨a4, cap4, rfl, hc4⟩ := hts.shape
  have hsm := hE.small.2.2.2.1
  have HE := Lib.hid hE; clear hE
  have HTS := Lib.hid (And.intro hts htv); clear hts htv
  have H16 := Lib.hid h16; clear h16
  unfold aggE
  go_enter Try.func52, Try.ntmps52
  go_wp2_with fail
  go_loopw [21] (fun i wr => ∃ (k : Nat) (ov : Value) (xs : List Value), k ≤ e.tabs.length ∧ i = .int .i64 k ∧ Hid (EnvInv w e (.slice a1 e.names.length cap1) (.slice a2 e.vals.length cap2) (.slice a3 e.tnames.length cap3) k ov xs wr)) (fun i _ => e.tabs.length - (intOf i).toNat)
  case atStart => exact ⟨0, _, _, Nat.zero_le _, rfl, Lib.hid (EnvInv.start w _ e _ _ _)⟩
  case round =>
    obtain ⟨k, ov, xs, hk, rfl, HI⟩ := hrel
    obtain ⟨wo, rfl⟩ : ∃ wo : World, wo = wr := ⟨_, rfl⟩
    by_cases hlt : k < e.tabs.length
    · obtain ⟨b, off, rfl, _, _, hc⟩ := HTS.out.1.at (by omega)
      obtain ⟨tv, hti, htr⟩ := HTS.out.2 k hlt
      obtain ⟨ta, tc, rfl, htc⟩ := htr.shape
      have g0 := below_cell HI.out.inv.below (hc k _ hti)
      have hbg := cell_lt g0
      have hl20 := H16.out _ (List.getElem_mem hlt)
      have HTR := Lib.hid htr
      clear hc hti htr
      have HST := Lib.hid (fun (w1 w2 : World) (tv : Value) (gg cap : Nat) (o : Obj) => HI.out.step (w1 := w1) (w2 := w2) (tv := tv) (gg := gg) (cap := cap) (o := o) hlt)
      generalize e.tabs[k] = T at *
      obtain ⟨i0, hi0, hz0, hz1, hz2⟩ := info_parts Try.info66
      go_wp2_with fail
      go_loopw [6, 27] (fun lv i wx => ∃ j : Nat, j ≤ T.length ∧ i = .int .i64 j ∧ Hid (More wo wx) ∧ Hid (wx.ownsRow wo.heap.size 66 2 lv j (flat2 (T.take j)))) (fun _ i _ => T.length - (intOf i).toNat)
      case atStart => exact ⟨0, Nat.zero_le _, rfl, Lib.hid (World.grownBy.refl _ _), Lib.hid ⟨rfl, Or.inl ⟨rfl, rfl⟩⟩⟩
      case round =>
        obtain ⟨j, hj, rfl, HM, HL⟩ := hrel
        obtain ⟨la, lcap, rfl, hlo⟩ := owns_shape HL.out
        have HLO := Lib.hid hlo; clear hlo
        have hbw := HM.out.size
        by_cases hjl : j < T.length
        · obtain ⟨tb, toff, rfl, _, _, htc'⟩ := HTR.out.at (by omega)
          have x0 := HM.out.cell (below_cell HI.out.inv.below (htc' _ _ (flat2_get T j hjl).1))
          have x1 := HM.out.cell (below_cell HI.out.inv.below (htc' _ _ (flat2_get T j hjl).2))
          rw [← Nat.add_assoc] at x1
          clear htc'
          have hxb := cell_lt x0
          have HTK := Lib.hid (show flat2 (T.take (j + 1)) = flat2 (T.take j) ++ [.int .i64 T[j].1, .int .i64 T[j].2] by rw [List.take_succ_eq_append_getElem hjl, flat2_push])
          generalize T[j] = x at *
          have hm1 : j + 1 ≤ maxLen := by unfold maxLen; omega
          have hm2 : (j + 1) * 16 ≤ 140737488355328 := by omega
          have HOW2 := Lib.hid (owns_keep (w' := (wr.alloc (.cells #[.int .i64 x.1, .int .i64 x.2] 178)).alloc (.cells #[.int .i64 x.1, .int .i64 x.2] 66)) HL.out (fun y hy => by
            have := (HLO.out y hy).2
            rw [Below.heap_alloc _ _ _ (by rw [World.size_alloc]; omega), Below.heap_alloc _ _ _ this]))
          have hbs : wo.heap.size ≤ ((wr.alloc (.cells #[.int .i64 x.1, .int .i64 x.2] 178)).alloc (.cells #[.int .i64 x.1, .int .i64 x.2] 66)).heap.size := by rw [World.size_alloc, World.size_alloc]; omega
          go_wp2_with (at_builtin; refine wpList_append_lies _ rfl _ _ _ rfl wo.heap.size 66 i0 _ 2 16 Try.underlying57 hi0 hz0 hz1 hz2 rfl (by omega) (.slice la j lcap) j (flat2 (T.take j)) rfl HOW2.out ⟨wr.heap.size + 1, 0, none⟩ 1 1 [.int .i64 x.1, .int .i64 x.2] rfl rfl (World.news_of_block (cs := #[.int .i64 x.1, .int .i64 x.2]) (t := 66) (fr := (0, 0)) (by rw [show wr.heap.size + 1 = (wr.alloc (.cells #[.int .i64 x.1, .int .i64 x.2] 178)).heap.size from (by simp)]; exact heap_alloc_new _ _)) (by simp [Value.oneCell']) (by omega) hm1 hm2 hbs _ rfl ?_; intro gg cap2 w2 hown2 hgrow2 hat2 hlt2)
          have HM2 := Lib.hid (show More wo w2 from more_of (((HM.out.below.alloc HM.out.size _).alloc (by rw [World.size_alloc]; omega) _).grown hgrow2 hbs (fun y hy => (HLO.out y hy).1)))
          have HO2 := Lib.hid (show w2.ownsRow wo.heap.size 66 2 (.slice (some ⟨gg, 0, none⟩) (j + 1) cap2) (j + 1) (flat2 (T.take (j + 1))) by rw [HTK.out]; exact hown2)
          clear hown2 hgrow2 hat2 hlt2
          go_wp2_with fail
          go_roundw
          case rel => exact ⟨j + 1, by omega, by go_num, HM2, HO2⟩
          case measure => simp [intOf]; omega
        · obtain rfl : j = T.length := by omega
          have HLR := Lib.hid (show Row (fun x => wo.heap.size ≤ x) wr.drew 2 T.length (.slice la T.length lcap) (flat2 T) by
            have := Row.of_owns HL.out
            rw [List.take_length] at this
            exact this.below (more_drew wr).below)
          have hov := HI.out.hov
          obtain ⟨oa, ocap, rfl, hon⟩ := owns_shape HI.out.own
          have HON := Lib.hid hon; clear hon
          have hw3 := HI.out.inv.size
          have hbk := (HM.out.block (b := w.heap.size + 1 + 1) (by omega)).trans hov
          have o3 : wr.cell? ⟨w.heap.size + 1 + 1, 3, none⟩ = some (.slice oa xs.length ocap) := by simp [World.cell?, hbk]
          have f3 := thaw hbk 3
          have hOl := cell_lt o3
          clear hov hbk
          have hxl := HI.out.len
          have hmx : xs.length + 1 ≤ maxLen ∧ (xs.length + 1) * 24 ≤ 140737488355328 := by unfold maxLen; omega
          have HMX := Lib.hid hmx; clear hmx hxl
          obtain ⟨j0, hj0, hy0, hy1, hy2⟩ := info_parts Try.info54
          have HNE := Lib.hid (show (Value.slice oa xs.length ocap).ownBlock ≠ some (w.heap.size + 1 + 1) from fun e => by have := (HON.out _ e).1; omega)
          have HKO := Lib.hid (fun (w1 : World) (hm : More wr w1) (o : Obj) => show (w1.alloc o).ownsRow (w.heap.size + 1 + 1 + 1) 54 1 (.slice oa xs.length ocap) xs.length xs from
            owns_keep HI.out.own (fun y hy => by
              have h1 := (HON.out y hy).2
              have h2 := HM.out.size
              have h3 := hm.size
              rw [Below.heap_alloc _ _ _ (by omega), hm.block (by omega), HM.out.block h1]))
          have HKS := Lib.hid (fun (w1 : World) (hm : More wr w1) (o : Obj) => show w.heap.size + 1 + 1 + 1 ≤ (w1.alloc o).heap.size by
            have h2 := HM.out.size
            have h3 := hm.size
            rw [World.size_alloc]; omega)
          go_wp2_with fail
          go_region_law (first | (refine step_append_lies _ (by rfl) _ _ _ (by rfl) (w.heap.size + 1 + 1 + 1) 54 j0 _ 1 24 Try.underlying47 hj0 hy0 hy1 hy2 rfl (by omega) (.slice oa xs.length ocap) xs.length xs (by rfl) hox ⟨w1.heap.size, 0, none⟩ 1 1 [.slice ra rn rc] (by rfl) (by rfl) (World.news_of_block (cs := #[.slice ra rn rc]) (t := 54) (fr := (0, 0)) (heap_alloc_new w1 _)) (by simp [Value.oneCell']) (by omega) HMX.out.1 HMX.out.2 hbs (w1.heap.size + 1) (by simp) ?_; intro gg cap2 w2 hown2 hgrow2 hat2 hlt2; have p5 := grown_cell hgrow2 (alloc_cell _ p4) HNE.out; have q5 := grown_thaw hgrow2 (alloc_cell _ p4) (alloc_thaw _ p4 q4) HNE.out) | (go_simp; go_at_call 38; refine (of_any (fun x => wo.heap.size ≤ x) T (.slice la T.length lcap) wr.drew hl20 HLR.out).mono ?_; rintro r w1 ⟨hb1, tv', rfl, hr1⟩; obtain ⟨ra, rc, rfl, _⟩ := hr1.shape; have hm1 : More wr w1 := more_trans (more_drew wr) (more_of hb1); have p4 := hm1.cell o3; have q4 := hm1.frozen hOl f3; have hOl1 := cell_lt p4; generalize hrn : (ofL T).length = rn at *; have hox := HKO.out w1 hm1 (.cells #[.slice ra rn rc] 54); have hbs := HKS.out w1 hm1 (.cells #[.slice ra rn rc] 54)))
          all_goals
            have HN := Lib.hid (HST.out w1 w2 (.slice ra rn rc) gg cap2 _ (more_trans HM.out hm1) (by exact hr1.mono (fun x hx => by have h1 := HM.out.size; have h2 : wr.heap.size ≤ x := hx; show wo.heap.size ≤ x; omega) (fun _ _ _ _ h => h)) hgrow2 hown2 hat2)
            clear hown2 hgrow2 hat2 hlt2 p5 q5 hrn hr1 hox
            go_wp2_with fail
            go_roundw
            case rel => exact ⟨k + 1, _, _, by omega, by go_num, HN⟩
            case measure => simp [intOf]; omega
    · obtain rfl : k = e.tabs.length := by omega
      have hov := HI.out.hov
      obtain ⟨oa, ocap, rfl, hon⟩ := owns_shape HI.out.own
      have hxl := HI.out.len
      have HOW := Lib.hid HI.out.own
      have HROW := Lib.hid HI.out.rows
      rw [hxl] at hov HOW HROW
      have z := HI.out.inv.res
      have hs3 := HI.out.inv.size
      have HBL := Lib.hid HI.out.inv.below
      clear hon hxl
      have o0 : wo.cell? ⟨w.heap.size + 1 + 1, 0, none⟩ = some (.slice a1 e.names.length cap1) := by simp [World.cell?, hov]
      have o1 : wo.cell? ⟨w.heap.size + 1 + 1, 1, none⟩ = some (.slice a2 e.vals.length cap2) := by simp [World.cell?, hov]
      have o2 : wo.cell? ⟨w.heap.size + 1 + 1, 2, none⟩ = some (.slice a3 e.tnames.length cap3) := by simp [World.cell?, hov]
      have o3 : wo.cell? ⟨w.heap.size + 1 + 1, 3, none⟩ = some (.slice oa e.tabs.length ocap) := by simp [World.cell?, hov]
      have o4 : wo.cell? ⟨w.heap.size + 1 + 1, 4, none⟩ = some (.int .i64 e.now) := by simp [World.cell?, hov]
      have z0 : wo.cell? ⟨w.heap.size + 1, 0, none⟩ = some (.slice none 0 0) := by simp [World.cell?, z]
      have z1 : wo.cell? ⟨w.heap.size + 1, 1, none⟩ = some (.slice none 0 0) := by simp [World.cell?, z]
      have z2 : wo.cell? ⟨w.heap.size + 1, 2, none⟩ = some (.slice none 0 0) := by simp [World.cell?, z]
      have z3 : wo.cell? ⟨w.heap.size + 1, 3, none⟩ = some (.slice none 0 0) := by simp [World.cell?, z]
      have z4 : wo.cell? ⟨w.heap.size + 1, 4, none⟩ = some (.int .i64 0) := by simp [World.cell?, z]
      have f0 := thaw z 0
      have f1 := thaw z 1
      have f2 := thaw z 2
      have f3 := thaw z 3
      have f4 := thaw z 4
      clear z hov
      go_wp2_with fail
      refine bodyPost_ret (v := .agg #[.slice a1 e.names.length cap1, .slice a2 e.vals.length cap2, .slice a3 e.tnames.length cap3, .slice oa e.tabs.length ocap, .int .i64 e.now]) (by simp [results, Try.results52, go_sem, z0, z1, z2, z3, z4]) rfl ?_
      have hbf := set5_below (M := w.heap.size + 1) HBL.out (Nat.le_succ _) (.slice a1 e.names.length cap1) (.slice a2 e.vals.length cap2) (.slice a3 e.tnames.length cap3) (.slice oa e.tabs.length ocap) (.int .i64 e.now)
      have hcell : ∀ x o v, w.heap.size + 1 + 1 + 1 ≤ x → wo.cell? ⟨x, o, none⟩ = some v → (set5 wo (w.heap.size + 1) (.slice a1 e.names.length cap1) (.slice a2 e.vals.length cap2) (.slice a3 e.tnames.length cap3) (.slice oa e.tabs.length ocap) (.int .i64 e.now)).cell? ⟨x, o, none⟩ = some v := fun x o v hx hv =>
        (World.cell?_of_block (w := wo) (a := ⟨x, o, none⟩) (set5_heap wo (w.heap.size + 1) _ _ _ _ _ x (by omega))).trans hv
      refine ⟨hbf, .slice oa e.tabs.length ocap, rfl, ⟨?_, ?_, ?_, ?_, ?_, ?_⟩, fun t ht => ?_⟩
      · exact (HE.out.names.below hbf).mono (fun _ _ => trivial) (fun _ _ _ _ h => h)
      · exact (HE.out.vals.below hbf).mono (fun _ _ => trivial) (fun _ _ _ _ h => h)
      · exact (HE.out.tnames.below hbf).mono (fun _ _ => trivial) (fun _ _ _ _ h => h)
      · refine ⟨xs, ?_, fun i hi => ?_⟩
        · have hl4 : (progE e).tabs.length = e.tabs.length := by simp [progE]
          rw [hl4]
          exact (Row.of_owns HOW.out).mono (fun _ _ => trivial) (fun x o v hx hv => hcell x o v hx hv)
        · have hi' : i < e.tabs.length := by simpa [progE] using hi
          obtain ⟨tv, h1, h2⟩ := HROW.out i hi' hi'
          have e1 : (progE e).tabs[i] = ofL e.tabs[i] := by simp [progE]
          rw [e1]
          exact ⟨tv, h1, h2.mono (fun _ _ => trivial) (fun x o v hx hv => hcell x o v hx.1 hv)⟩
      · obtain ⟨s1, s2, s3, s4, s5⟩ := HE.out.small
        refine ⟨s1, s2, s3, by simpa [progE] using s4, fun t ht => ?_⟩
        obtain ⟨y, hy, rfl⟩ := List.mem_map.1 ht
        have h1 := dist_length y
        have h2 := distL_le y
        have h3 := s5 y hy
        omega
      · obtain ⟨n1, n2, n3⟩ := HE.out.nums
        refine ⟨n1, n2, fun t ht x hx => ?_⟩
        obtain ⟨y, hy, rfl⟩ := List.mem_map.1 ht
        exact n3 y hy x (mem_of hx)
      · obtain ⟨y, hy, rfl⟩ := List.mem_map.1 ht
        exact asc_of y
end Go.Proofs.Ytekhoanjpnjaeaa
