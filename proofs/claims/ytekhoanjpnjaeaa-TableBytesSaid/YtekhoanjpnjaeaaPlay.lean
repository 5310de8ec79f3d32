/- law09.play (30). -/
import Derived.Test.YtekhoanjpnjaeaaPlayL
import Derived.Deep.DrawnRows
namespace Go.Proofs.Ytekhoanjpnjaeaa
open Go.RowKit
attribute [local go_sem ↓] Go.wp_at_zero Go.wp_at_succ

theorem Try.info54p : (Try.prog.info? 54).map (fun i => (i.zero, i.size, i.bytes)) = some (some (.agg #[.slice none 0 0]), 1, 24) := by kernel_rfl
theorem Try.info58p : (Try.prog.info? 58).map (fun i => (i.zero, i.size, i.bytes)) = some (some (.slice none 0 0), 1, 24) := by kernel_rfl

theorem opC_get (l : List OpD) (j : Nat) (h : j < l.length) : (l.flatMap opC)[j * 4]? = some (.int .u8 l[j].src) ∧ (l.flatMap opC)[j * 4 + 1]? = some (.bool l[j].del) ∧ (l.flatMap opC)[j * 4 + 2]? = some (.int .i64 l[j].k) ∧ (l.flatMap opC)[j * 4 + 3]? = some (.int .i64 l[j].v) := by
  induction l generalizing j with
  | nil => simp at h
  | cons x r ih =>
    cases j with
    | zero => simp [opC]
    | succ j =>
      have := ih j (by simpa using h)
      rw [List.flatMap_cons]
      have e : ∀ q, (opC x ++ r.flatMap opC)[(j + 1) * 4 + q]? = (r.flatMap opC)[j * 4 + q]? := fun q => by
        rw [List.getElem?_append_right (by simp [opC]; omega)]
        congr 1
        simp [opC]; omega
      exact ⟨(e 0).trans this.1, (e 1).trans this.2.1, (e 2).trans this.2.2.1, (e 3).trans this.2.2.2⟩
theorem OpD.at_rem (o : OpD) (h : o.ok) {n : Nat} (hn : 0 < n) : (wrap64 o.src).tmod (n : Int) = (o.at n : Int) := by
  have h1 := h.1; have h2 := h.2.1
  rw [show wrap64 o.src = o.src from w64_in (by omega) (by omega), Int.tmod_eq_emod_of_nonneg h1, o.at_eq hn]
theorem wide {p : Bool} {S : Nat → Prop} {n : Nat} {w : World} {t : Tab} {v : Value} (h : TabQ p (fun x => S x ∨ n ≤ x) w t v) (hn : ∀ x, n ≤ x → S x) : TabQ p S w t v :=
  h.mono2 fun _ _ _ hS hu => ⟨hS.elim id (hn _), hu⟩
theorem Play.keepA {w wr w2 : World} {ts us : List Tab} {ga ca gw cw g2 : Nat} (h : Play w wr ts us ga ca gw cw) (hgrow : wr.grownBy w2 (some ga)) (hat : some ga = some g2 ∨ g2 = wr.heap.size) :
    ∀ b off u, (b ≠ ga ∧ b ≠ gw) → wr.cell? ⟨b, off, none⟩ = some u → (b ≠ g2 ∧ b ≠ gw) ∧ w2.cell? ⟨b, off, none⟩ = some u := fun b off u hS hu => by
  have := cell_lt hu
  have hla := h.a.block
  have hg2 : g2 = ga ∨ g2 = wr.heap.size := by rcases hat with h | h; exact Or.inl (by cases h; rfl); exact Or.inr h
  exact ⟨⟨by rcases hg2 with h | h <;> omega, hS.2⟩, grown_none hgrow hS.1 hu⟩
theorem owns_len {w : World} {B : Nat} {e : TypeId} {n : Nat} {v : Value} {xs : List Value} (h : w.ownsRow B e 1 v n xs) : xs.length = n := by have := h.1; rwa [Nat.mul_one] at this
theorem del_tabS (S : Nat → Prop) (l : List (Int × Int)) (k : Int) (v : Value) (w : World) (hl : l.length < 1000000) (hasc : Asc l) (h : TabV S w l v) :
    Calls Try.prog 40 #[.agg #[v], .int .i64 k] w fun e w' => More w w' ∧ ∃ v', e = .returned (.agg #[v']) ∧ TabQ true (fun x => S x ∨ w.heap.size ≤ x) w' (delL l k) v' := by
  obtain ⟨a, cap, rfl, hr, hp⟩ := h
  refine (del_any _ l k a cap w hl hasc hr hp).mono ?_
  rintro e w' ⟨hb, a', c', rfl, hr', hp'⟩
  exact ⟨more_of hb, _, rfl, a', c', rfl, hr', fun _ => hp'⟩
theorem put_tabS (S : Nat → Prop) (l : List (Int × Int)) (k x : Int) (v : Value) (w : World) (hl : l.length < 1000000) (hasc : Asc l) (h : TabV S w l v) :
    Calls Try.prog 44 #[.agg #[v], .int .i64 k, .int .i64 x] w fun e w' => More w w' ∧ ∃ v', e = .returned (.agg #[v']) ∧ TabQ true (fun x => S x ∨ w.heap.size ≤ x) w' (putL l k x) v' := by
  obtain ⟨a, cap, rfl, hr, hp⟩ := h
  refine (put_any _ l k x a cap w hl hasc hr hp).mono ?_
  rintro e w' ⟨hb, a', c', rfl, hr', hp'⟩
  exact ⟨more_of hb, _, rfl, a', c', rfl, hr', fun _ => hp'⟩
theorem rdel_tabS (S : Nat → Prop) (l : List (Int × Int)) (k : Int) (v : Value) (w : World) (hl : l.length < 1000000) (h : TabQ false S w l v) :
    Calls Try.prog 74 #[v, .int .i64 k] w fun e w' => More w w' ∧ ∃ v', e = .returned v' ∧ TabQ false (fun x => S x ∨ w.heap.size ≤ x) w' (delL l k) v' := by
  refine (rdel_any S l k v w (by omega) h.row).mono ?_
  rintro e w' ⟨hb, v', rfl, hr'⟩
  exact ⟨more_of hb, _, rfl, TabQ.of_row (hr'.mono (fun _ h => Or.inr h) (fun _ _ _ _ h => h))⟩
theorem rput_tabS (S : Nat → Prop) (l : List (Int × Int)) (k x : Int) (v : Value) (w : World) (hl : l.length < 1000000) (hasc : Asc l) (h : TabQ false S w l v) :
    Calls Try.prog 75 #[v, .int .i64 k, .int .i64 x] w fun e w' => More w w' ∧ ∃ v', e = .returned v' ∧ TabQ false (fun x => S x ∨ w.heap.size ≤ x) w' (putL l k x) v' := by
  refine (rput_any S l k x v w (by omega) hasc h.row).mono ?_
  rintro e w' ⟨hb, v', rfl, hr'⟩
  exact ⟨more_of hb, _, rfl, TabQ.of_row (hr'.mono (fun _ h => Or.inr h) (fun _ _ _ _ h => h))⟩

set_option maxRecDepth 100000 in
set_option maxHeartbeats 2000000 in
theorem play_any (S : Nat → Prop) (l : List OpD) (v : Value) (w : World) (hl : l.length ≤ maxLen) (hok : ∀ o ∈ l, o.ok) (h : Row S w 4 l.length v (l.flatMap opC)) :
    Calls Try.prog 30 #[v] w fun e w' => ∃ ga ca gw cw, e = .returned (.tuple #[.slice (some ⟨ga, 0, none⟩) (playL (l.take 40)).length ca, .slice (some ⟨gw, 0, none⟩) (playL (l.take 40)).length cw]) ∧ Play w w' (playL (l.take 40)) (playL (l.take 40)) ga ca gw cw := by
  obtain ⟨a, cap, rfl, hcap⟩ := h.shape
  obtain ⟨i0, hi0, hz0, hz1, hz2⟩ := info_parts Try.info54p
  obtain ⟨k0, hk0, hy0, hy1, hy2⟩ := info_parts Try.info58p
  have HR := Lib.hid h; clear h
  have HOK := Lib.hid hok; clear hok
  unfold maxLen at hl
  go_enter Try.func30, Try.ntmps30
  go_wp2_with fail
  generalize hw2 : (w.alloc (.cells #[.slice none 0 0] 54)).alloc (.cells #[.slice none 0 0] 58) = w2
  have HP0 := Lib.hid (show Play w w2 [[]] [[]] w.heap.size 1 (w.heap.size + 1) 1 by
    have x2 : w2.heap[w.heap.size]? = some (.cells #[.slice none 0 0] 54) := by rw [← hw2, Below.heap_alloc _ _ _ (by simp)]; exact alloc_last _ _
    have y2 : w2.heap[w.heap.size + 1]? = some (.cells #[.slice none 0 0] 58) := by rw [← hw2]; exact alloc_at _ _ (by simp)
    exact ⟨by rw [← hw2]; exact grownBy_alloc2 _ _ _ _, by omega, ListT.lit x2 (Nat.le_refl _) (TabQ.nil _ _ _), ListT.lit y2 (Nat.le_succ _) (TabQ.nil _ _ _)⟩)
  clear hw2
  go_loopw [4, 5, 6] (fun x y i wr => ∃ (j : Nat) (ts : List Tab) (ga ca gw cw : Nat), j ≤ l.length ∧ j ≤ 40 ∧ i = .int .i64 j ∧ x = .slice (some ⟨ga, 0, none⟩) ts.length ca ∧ y = .slice (some ⟨gw, 0, none⟩) ts.length cw ∧ Hid (ts = playL (l.take j)) ∧ Hid (Play w wr ts ts ga ca gw cw)) (fun _ _ i _ => l.length - (intOf i).toNat)
  case atStart => exact ⟨0, [[]], _, _, _, _, Nat.zero_le _, Nat.zero_le _, rfl, rfl, rfl, Lib.hid rfl, HP0⟩
  case round =>
    obtain ⟨j, ts, ga, ca, gw, cw, hj, hj40, rfl, rfl, rfl, HTS, HP⟩ := hrel
    by_cases hlt : j < l.length ∧ j < 40
    · obtain ⟨hlt, hlt40⟩ := hlt
      obtain ⟨b, off, rfl, _, _, hc⟩ := HR.out.at (by omega)
      obtain ⟨e0, e1, e2, e3⟩ := opC_get l j hlt
      have hMW := HP.out.more
      have g0 := hMW.cell (hc _ _ e0)
      have g1 := hMW.cell (hc _ _ e1)
      have g2 := hMW.cell (hc _ _ e2)
      have g3 := hMW.cell (hc _ _ e3)
      rw [← Nat.add_assoc] at g1 g2 g3
      clear hc e0 e1 e2 e3 hMW
      have HO := Lib.hid (HOK.out l[j] (List.getElem_mem _))
      have hlen : ts.length = j + 1 := by rw [HTS.out, playL_len, List.length_take]; omega
      have HLEN := Lib.hid hlen
      have HST := Lib.hid (show stepP ts l[j] = playL (l.take (j + 1)) by rw [HTS.out, playL_take l j hlt])
      have HG := Lib.hid (show ∀ t ∈ ts, GoodT 40 t from fun t ht => by
        rw [HTS.out] at ht
        exact (play_good (l.take j) (fun o ho => HOK.out o (List.mem_of_mem_take ho)) t ht).mono (Nat.le_trans (List.length_take_le _ _) hj40))
      have hnp : 0 < ts.length := by omega
      have hn41 : ts.length ≤ 40 := by omega
      clear hlen
      generalize l[j] = o at *
      have hat := o.at_lt hnp
      have hrem := o.at_rem HO.out hnp
      obtain ⟨tvA, cA, tA⟩ := HP.out.a.cell hat
      obtain ⟨tvW, cW, tW⟩ := HP.out.b.cell hat
      obtain ⟨aA, capA, rfl⟩ := tA.shape
      obtain ⟨aW, capW, rfl⟩ := tW.shape
      have hcA := HP.out.a.cap.1
      have hcW := HP.out.b.cap.1
      have HTA := Lib.hid tA
      have HTW := Lib.hid tW
      have HON := Lib.hid (show stepP ts o = ts ++ [o.on ts[o.at ts.length]] by unfold stepP; rw [List.getD_eq_getElem?_getD, List.getElem?_eq_getElem hat]; rfl)
      have HGT := Lib.hid (HG.out _ (List.getElem_mem hat))
      clear tA tW
      generalize ts[o.at ts.length] = t at *
      generalize o.at ts.length = p at *
      have hbg := cell_lt g0
      have hbA := cell_lt cA
      have hbW := cell_lt cW
      obtain ⟨osrc, odel, ok, ov⟩ := o
      dsimp only at g0 g1 g2 g3 hrem
      cases odel with
      | true =>
        have HD := Lib.hid (HON.out.trans (show ts ++ [OpD.on ⟨osrc, true, ok, ov⟩ t] = ts ++ [delL t ok] from rfl))
        go_wp2_with fail
        have HPo := Lib.hid (HP.out.step (more_alloc wr (.cells #[.int .u8 osrc, .bool true, .int .i64 ok, .int .i64 ov] 145)))
        have hxo := alloc_last wr (.cells #[.int .u8 osrc, .bool true, .int .i64 ok, .int .i64 ov] 145)
        have HXO := Lib.hid hxo
        have cA' := alloc_cell (w := wr) (.cells #[.int .u8 osrc, .bool true, .int .i64 ok, .int .i64 ov] 145) cA
        have cW' := alloc_cell (w := wr) (.cells #[.int .u8 osrc, .bool true, .int .i64 ok, .int .i64 ov] 145) cW
        have HTA' := Lib.hid (HTA.out.mono2 (fun _ _ _ hS hu => ⟨hS, alloc_cell (w := wr) (.cells #[.int .u8 osrc, .bool true, .int .i64 ok, .int .i64 ov] 145) hu⟩))
        have HTW' := Lib.hid (HTW.out.mono2 (fun _ _ _ hS hu => ⟨hS, alloc_cell (w := wr) (.cells #[.int .u8 osrc, .bool true, .int .i64 ok, .int .i64 ov] 145) hu⟩))
        have hzo : wr.heap.size < (wr.alloc (.cells #[.int .u8 osrc, .bool true, .int .i64 ok, .int .i64 ov] 145)).heap.size := by simp
        generalize hwo : wr.alloc (.cells #[.int .u8 osrc, .bool true, .int .i64 ok, .int .i64 ov] 145) = wo at *
        clear hwo g0 g1 g2 g3 cA cW HTA HTW
        have q2 : wo.drew.cell? ⟨wr.heap.size, 2, none⟩ = some (.int .i64 ok) := by simp only [World.cell?, show wo.drew.heap[wr.heap.size]? = _ from hxo]; rfl
        clear hxo
        have HCD := Lib.hid (del_tabS _ t ok (.slice aA t.length capA) wo.drew (by have := HGT.out.len; omega) HGT.out.asc (TabQ.tv HTA'.out))
        have qA : wo.drew.cell? ⟨ga, p, none⟩ = some (.slice aA t.length capA) := cA'
        have b1 : (p : Int) < (ts.length : Int) := by omega
        have hmx1 : ts.length + 1 ≤ maxLen := by unfold maxLen; omega
        have hmx2 : (ts.length + 1) * 24 ≤ 140737488355328 := by omega
        obtain ⟨t', ht'⟩ : ∃ t', delL t ok = t' := ⟨_, rfl⟩
        rw [ht'] at HCD HD
        have HT' := Lib.hid ht'; clear ht'
        go_region_law (first | (refine step_append_lies _ (by rfl) _ _ _ (by rfl) w.heap.size 54 i0 _ 1 24 Try.underlying47 hi0 hz0 hz1 hz2 rfl (by omega) (.slice (some ⟨ga, 0, none⟩) ts.length ca) ts.length xs (by rfl) hox ⟨w1.heap.size, 0, none⟩ 1 1 [.slice a1 t'.length c1] (by rfl) (by rfl) (World.news_of_block (cs := #[.slice a1 t'.length c1]) (t := 54) (fr := (0, 0)) (heap_alloc_new w1 _)) (by simp [Value.oneCell']) (by omega) hmx1 hmx2 hbs (w1.heap.size + 1) (by simp) ?_; intro gg cap2 w2' hown2 hgrow2 hat2 hlt2) | (go_simp; go_at_call 40; refine HCD.out.mono ?_; rintro e w1 ⟨hm1, v1, rfl, ht1⟩; obtain ⟨a1, c1, rfl⟩ := ht1.shape; have HP1 := Lib.hid ((HPo.out.step (more_trans (more_drew wo) hm1)).step (more_alloc w1 (.cells #[.slice a1 t'.length c1] 54))); have HMO1 := Lib.hid (more_trans (more_trans (more_drew wo) hm1) (more_alloc w1 (.cells #[.slice a1 t'.length c1] 54))); obtain ⟨xs, hox, hxx⟩ := HP1.out.a; have HXX := Lib.hid hxx; have HT1 := Lib.hid ((wide ht1 (fun x hx => by have h1 := HPo.out.a.block.2; have h2 := HPo.out.b.block.2; have h3 : wo.heap.size ≤ x := hx; exact ⟨(by omega), (by omega)⟩)).mono2 (fun _ _ _ hS hu => ⟨hS, alloc_cell (w := w1) (.cells #[.slice a1 t'.length c1] 54) hu⟩)); have hbs : w.heap.size ≤ (w1.alloc (.cells #[.slice a1 t'.length c1] 54)).heap.size := HP1.out.more.size; clear hxx ht1 hm1))
        all_goals
          have hat3 : some ga = some gg ∨ gg = (w1.alloc (.cells #[.slice a1 t'.length c1] 54)).heap.size := by rw [World.size_alloc]; exact hat2
          have HP2 := Lib.hid (HP1.out.appA HXX.out (owns_len hox) HT1.out hown2 hgrow2 hat3)
          have hkeep := HP1.out.keepA hgrow2 (g2 := gg) hat3
          clear hat3
          have HTW2 := Lib.hid ((HTW'.out.mono2 (S' := fun b => b ≠ ga ∧ b ≠ gw) (fun _ _ _ hS hu => ⟨hS, HMO1.out.cell hu⟩)).mono2 hkeep)
          have hne := HP1.out.ne
          have cW2 : w2'.drew.cell? ⟨gw, p, none⟩ = some (.slice aW t.length capW) := show w2'.cell? ⟨gw, p, none⟩ = _ from grown_none hgrow2 (fun e => hne e.symm) (HMO1.out.cell cW')
          have hxo2 : w2'.drew.heap[wr.heap.size]? = some (.cells #[.int .u8 osrc, .bool true, .int .i64 ok, .int .i64 ov] 145) := (hgrow2.block _ (Nat.lt_of_lt_of_le hzo HMO1.out.size) (fun e => by have h1 : ga = wr.heap.size := Option.some.inj (show some ga = some wr.heap.size from e.symm); omega)).trans ((HMO1.out.block hzo).trans HXO.out)
          have r2 : w2'.drew.cell? ⟨wr.heap.size, 2, none⟩ = some (.int .i64 ok) := by simp only [World.cell?, hxo2]; rfl
          have HXO2 := Lib.hid hxo2
          have hz2 : wr.heap.size < w2'.heap.size := (Array.getElem?_eq_some_iff.1 hxo2).1
          have hgw2 := cell_lt cW2
          clear hxo2 hkeep hown2 hgrow2 hat2 hlt2 hox hbs q2 qA hne HP1 HMO1 HXX HT1 HTA' HTW' HPo cA' cW' hzo HCD
          have HCD := Lib.hid (rdel_tabS _ t ok (.slice aW t.length capW) w2'.drew (by have := HGT.out.len; omega) HTW2.out)
          rw [HT'.out] at HCD
          go_wp2_with fail
          go_region_law (first | (refine step_append_lies _ (by rfl) _ _ _ (by rfl) w.heap.size 58 k0 _ 1 24 Try.underlying48 hk0 hy0 hy1 hy2 rfl (by omega) (.slice (some ⟨gw, 0, none⟩) ts.length cw) ts.length xs3 (by rfl) hox ⟨w3.heap.size, 0, none⟩ 1 1 [.slice a3 t'.length c3] (by rfl) (by rfl) (World.news_of_block (cs := #[.slice a3 t'.length c3]) (t := 58) (fr := (0, 0)) (heap_alloc_new w3 _)) (by simp [Value.oneCell']) (by omega) hmx1 hmx2 hbs (w3.heap.size + 1) (by simp) ?_; intro gg4 cap4 w4 hown4 hgrow4 hat4 hlt4) | (go_simp; go_at_call 74; refine HCD.out.mono ?_; rintro e w3 ⟨hm3, v3, rfl, ht3⟩; obtain ⟨a3, c3, rfl⟩ := ht3.shape; have HP3 := Lib.hid ((HP2.out.step (more_trans (more_drew w2') hm3)).step (more_alloc w3 (.cells #[.slice a3 t'.length c3] 58))); obtain ⟨xs3, hox, hxx⟩ := HP3.out.b; have HXX := Lib.hid hxx; have HT3 := Lib.hid ((wide ht3 (fun x hx => by have h1 := HP2.out.a.block.2; have h2 := HP2.out.b.block.2; have h3 : w2'.heap.size ≤ x := hx; exact ⟨(by omega), (by omega)⟩)).mono2 (fun _ _ _ hS hu => ⟨hS, alloc_cell (w := w3) (.cells #[.slice a3 t'.length c3] 58) hu⟩)); have hbs : w.heap.size ≤ (w3.alloc (.cells #[.slice a3 t'.length c3] 58)).heap.size := HP3.out.more.size; clear hxx ht3 hm3))
          all_goals
            have hat5 : some gw = some gg4 ∨ gg4 = (w3.alloc (.cells #[.slice a3 t'.length c3] 58)).heap.size := by rw [World.size_alloc]; exact hat4
            have HP4 := Lib.hid (HP3.out.appB HXX.out (owns_len hox) HT3.out hown4 hgrow4 hat5)
            clear hat5
            clear hown4 hgrow4 hat4 hlt4 hox hbs r2 cW2 HP3 HXX HT3 
            have hln : ts.length + 1 = (ts ++ [t']).length := by rw [List.length_append]; rfl
            have HLN := Lib.hid hln; clear hln
            go_wp2_with fail
            go_roundw
            case rel => exact ⟨j + 1, ts ++ [t'], gg, cap2, gg4, cap4, by omega, by omega, by go_num, by rw [HLN.out], by rw [HLN.out], Lib.hid (by rw [← HD.out]; exact HST.out), HP4⟩
            case measure => simp [intOf]; omega
      | false =>
        have HD := Lib.hid (HON.out.trans (show ts ++ [OpD.on ⟨osrc, false, ok, ov⟩ t] = ts ++ [putL t ok ov] from rfl))
        go_wp2_with fail
        have HPo := Lib.hid (HP.out.step (more_alloc wr (.cells #[.int .u8 osrc, .bool false, .int .i64 ok, .int .i64 ov] 145)))
        have hxo := alloc_last wr (.cells #[.int .u8 osrc, .bool false, .int .i64 ok, .int .i64 ov] 145)
        have HXO := Lib.hid hxo
        have cA' := alloc_cell (w := wr) (.cells #[.int .u8 osrc, .bool false, .int .i64 ok, .int .i64 ov] 145) cA
        have cW' := alloc_cell (w := wr) (.cells #[.int .u8 osrc, .bool false, .int .i64 ok, .int .i64 ov] 145) cW
        have HTA' := Lib.hid (HTA.out.mono2 (fun _ _ _ hS hu => ⟨hS, alloc_cell (w := wr) (.cells #[.int .u8 osrc, .bool false, .int .i64 ok, .int .i64 ov] 145) hu⟩))
        have HTW' := Lib.hid (HTW.out.mono2 (fun _ _ _ hS hu => ⟨hS, alloc_cell (w := wr) (.cells #[.int .u8 osrc, .bool false, .int .i64 ok, .int .i64 ov] 145) hu⟩))
        have hzo : wr.heap.size < (wr.alloc (.cells #[.int .u8 osrc, .bool false, .int .i64 ok, .int .i64 ov] 145)).heap.size := by simp
        generalize hwo : wr.alloc (.cells #[.int .u8 osrc, .bool false, .int .i64 ok, .int .i64 ov] 145) = wo at *
        clear hwo g0 g1 g2 g3 cA cW HTA HTW
        have q2 : wo.drew.cell? ⟨wr.heap.size, 2, none⟩ = some (.int .i64 ok) := by simp only [World.cell?, show wo.drew.heap[wr.heap.size]? = _ from hxo]; rfl
        have q3 : wo.drew.cell? ⟨wr.heap.size, 3, none⟩ = some (.int .i64 ov) := by simp only [World.cell?, show wo.drew.heap[wr.heap.size]? = _ from hxo]; rfl
        clear hxo
        have HCD := Lib.hid (put_tabS _ t ok ov (.slice aA t.length capA) wo.drew (by have := HGT.out.len; omega) HGT.out.asc (TabQ.tv HTA'.out))
        have qA : wo.drew.cell? ⟨ga, p, none⟩ = some (.slice aA t.length capA) := cA'
        have b1 : (p : Int) < (ts.length : Int) := by omega
        have hmx1 : ts.length + 1 ≤ maxLen := by unfold maxLen; omega
        have hmx2 : (ts.length + 1) * 24 ≤ 140737488355328 := by omega
        obtain ⟨t', ht'⟩ : ∃ t', putL t ok ov = t' := ⟨_, rfl⟩
        rw [ht'] at HCD HD
        have HT' := Lib.hid ht'; clear ht'
        go_region_law (first | (refine step_append_lies _ (by rfl) _ _ _ (by rfl) w.heap.size 54 i0 _ 1 24 Try.underlying47 hi0 hz0 hz1 hz2 rfl (by omega) (.slice (some ⟨ga, 0, none⟩) ts.length ca) ts.length xs (by rfl) hox ⟨w1.heap.size, 0, none⟩ 1 1 [.slice a1 t'.length c1] (by rfl) (by rfl) (World.news_of_block (cs := #[.slice a1 t'.length c1]) (t := 54) (fr := (0, 0)) (heap_alloc_new w1 _)) (by simp [Value.oneCell']) (by omega) hmx1 hmx2 hbs (w1.heap.size + 1) (by simp) ?_; intro gg cap2 w2' hown2 hgrow2 hat2 hlt2) | (go_simp; go_at_call 44; refine HCD.out.mono ?_; rintro e w1 ⟨hm1, v1, rfl, ht1⟩; obtain ⟨a1, c1, rfl⟩ := ht1.shape; have HP1 := Lib.hid ((HPo.out.step (more_trans (more_drew wo) hm1)).step (more_alloc w1 (.cells #[.slice a1 t'.length c1] 54))); have HMO1 := Lib.hid (more_trans (more_trans (more_drew wo) hm1) (more_alloc w1 (.cells #[.slice a1 t'.length c1] 54))); obtain ⟨xs, hox, hxx⟩ := HP1.out.a; have HXX := Lib.hid hxx; have HT1 := Lib.hid ((wide ht1 (fun x hx => by have h1 := HPo.out.a.block.2; have h2 := HPo.out.b.block.2; have h3 : wo.heap.size ≤ x := hx; exact ⟨(by omega), (by omega)⟩)).mono2 (fun _ _ _ hS hu => ⟨hS, alloc_cell (w := w1) (.cells #[.slice a1 t'.length c1] 54) hu⟩)); have hbs : w.heap.size ≤ (w1.alloc (.cells #[.slice a1 t'.length c1] 54)).heap.size := HP1.out.more.size; clear hxx ht1 hm1))
        all_goals
          have hat3 : some ga = some gg ∨ gg = (w1.alloc (.cells #[.slice a1 t'.length c1] 54)).heap.size := by rw [World.size_alloc]; exact hat2
          have HP2 := Lib.hid (HP1.out.appA HXX.out (owns_len hox) HT1.out hown2 hgrow2 hat3)
          have hkeep := HP1.out.keepA hgrow2 (g2 := gg) hat3
          clear hat3
          have HTW2 := Lib.hid ((HTW'.out.mono2 (S' := fun b => b ≠ ga ∧ b ≠ gw) (fun _ _ _ hS hu => ⟨hS, HMO1.out.cell hu⟩)).mono2 hkeep)
          have hne := HP1.out.ne
          have cW2 : w2'.drew.cell? ⟨gw, p, none⟩ = some (.slice aW t.length capW) := show w2'.cell? ⟨gw, p, none⟩ = _ from grown_none hgrow2 (fun e => hne e.symm) (HMO1.out.cell cW')
          have hxo2 : w2'.drew.heap[wr.heap.size]? = some (.cells #[.int .u8 osrc, .bool false, .int .i64 ok, .int .i64 ov] 145) := (hgrow2.block _ (Nat.lt_of_lt_of_le hzo HMO1.out.size) (fun e => by have h1 : ga = wr.heap.size := Option.some.inj (show some ga = some wr.heap.size from e.symm); omega)).trans ((HMO1.out.block hzo).trans HXO.out)
          have r2 : w2'.drew.cell? ⟨wr.heap.size, 2, none⟩ = some (.int .i64 ok) := by simp only [World.cell?, hxo2]; rfl
          have r3 : w2'.drew.cell? ⟨wr.heap.size, 3, none⟩ = some (.int .i64 ov) := by simp only [World.cell?, hxo2]; rfl
          have HXO2 := Lib.hid hxo2
          have hz2 : wr.heap.size < w2'.heap.size := (Array.getElem?_eq_some_iff.1 hxo2).1
          have hgw2 := cell_lt cW2
          clear hxo2 hkeep hown2 hgrow2 hat2 hlt2 hox hbs q2 qA hne q3 HP1 HMO1 HXX HT1 HTA' HTW' HPo cA' cW' hzo HCD
          have HCD := Lib.hid (rput_tabS _ t ok ov (.slice aW t.length capW) w2'.drew (by have := HGT.out.len; omega) HGT.out.asc HTW2.out)
          rw [HT'.out] at HCD
          go_wp2_with fail
          go_region_law (first | (refine step_append_lies _ (by rfl) _ _ _ (by rfl) w.heap.size 58 k0 _ 1 24 Try.underlying48 hk0 hy0 hy1 hy2 rfl (by omega) (.slice (some ⟨gw, 0, none⟩) ts.length cw) ts.length xs3 (by rfl) hox ⟨w3.heap.size, 0, none⟩ 1 1 [.slice a3 t'.length c3] (by rfl) (by rfl) (World.news_of_block (cs := #[.slice a3 t'.length c3]) (t := 58) (fr := (0, 0)) (heap_alloc_new w3 _)) (by simp [Value.oneCell']) (by omega) hmx1 hmx2 hbs (w3.heap.size + 1) (by simp) ?_; intro gg4 cap4 w4 hown4 hgrow4 hat4 hlt4) | (go_simp; go_at_call 75; refine HCD.out.mono ?_; rintro e w3 ⟨hm3, v3, rfl, ht3⟩; obtain ⟨a3, c3, rfl⟩ := ht3.shape; have HP3 := Lib.hid ((HP2.out.step (more_trans (more_drew w2') hm3)).step (more_alloc w3 (.cells #[.slice a3 t'.length c3] 58))); obtain ⟨xs3, hox, hxx⟩ := HP3.out.b; have HXX := Lib.hid hxx; have HT3 := Lib.hid ((wide ht3 (fun x hx => by have h1 := HP2.out.a.block.2; have h2 := HP2.out.b.block.2; have h3 : w2'.heap.size ≤ x := hx; exact ⟨(by omega), (by omega)⟩)).mono2 (fun _ _ _ hS hu => ⟨hS, alloc_cell (w := w3) (.cells #[.slice a3 t'.length c3] 58) hu⟩)); have hbs : w.heap.size ≤ (w3.alloc (.cells #[.slice a3 t'.length c3] 58)).heap.size := HP3.out.more.size; clear hxx ht3 hm3))
          all_goals
            have hat5 : some gw = some gg4 ∨ gg4 = (w3.alloc (.cells #[.slice a3 t'.length c3] 58)).heap.size := by rw [World.size_alloc]; exact hat4
            have HP4 := Lib.hid (HP3.out.appB HXX.out (owns_len hox) HT3.out hown4 hgrow4 hat5)
            clear hat5
            clear hown4 hgrow4 hat4 hlt4 hox hbs r2 cW2 HP3 HXX HT3 r3 
            have hln : ts.length + 1 = (ts ++ [t']).length := by rw [List.length_append]; rfl
            have HLN := Lib.hid hln; clear hln
            go_wp2_with fail
            go_roundw
            case rel => exact ⟨j + 1, ts ++ [t'], gg, cap2, gg4, cap4, by omega, by omega, by go_num, by rw [HLN.out], by rw [HLN.out], Lib.hid (by rw [← HD.out]; exact HST.out), HP4⟩
            case measure => simp [intOf]; omega
    · have hq : ¬ (j < l.length) ∨ j = 40 := by omega
      have HE := Lib.hid (show ts = playL (l.take 40) by
        rw [HTS.out]
        rcases hq with h | h
        · rw [List.take_of_length_le (by omega), List.take_of_length_le (by omega)]
        · rw [h])
      rcases (show ¬ (j < l.length) ∨ (j < l.length ∧ j = 40) by omega) with h | ⟨h, rfl⟩
      all_goals
        clear hlt hq
        go_wp2_with fail
        go_ret2
        exact ⟨ga, ca, gw, cw, by rw [← HE.out]; rfl, by rw [← HE.out]; exact HP.out⟩
end Go.Proofs.Ytekhoanjpnjaeaa
