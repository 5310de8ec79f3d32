/- rootcauseref09.Read (49). -/
import Derived.Test.YtekhoanjpnjaeaaRead
namespace Go.Proofs.Ytekhoanjpnjaeaa
open Go.RowKit
theorem row_app {w wr w2 : World} {L : List (Int × Int)} {x : Int × Int} {oa : Option Addr} {ocap g cap : Nat} {ob : Obj} (hM : More w wr) (hO : wr.ownsRow w.heap.size 66 2 (.slice oa L.length ocap) L.length (flat2 L))
    (hgrow : (wr.alloc ob).grownBy w2 (Value.slice oa L.length ocap).ownBlock) (hown : w2.ownsRow w.heap.size 66 2 (.slice (some ⟨g, 0, none⟩) (L.length + 1) cap) (L.length + 1) (flat2 L ++ [.int .i64 x.1, .int .i64 x.2])) :
    More w w2 ∧ w2.ownsRow w.heap.size 66 2 (.slice (some ⟨g, 0, none⟩) (L.length + 1) cap) (L ++ [x]).length (flat2 (L ++ [x])) := by
  obtain ⟨a, c, _, hoo⟩ := owns_shape (hO.alloc ob)
  refine ⟨more_of ((hM.below.alloc hM.size _).grown hgrow (by rw [World.size_alloc]; have := hM.size; omega) (fun y hy => (hoo y hy).1)), ?_⟩
  rw [flat2_push, List.length_append]; exact hown
theorem RSt.next0 {n : Nat} {l : List Int} {R : Option (List (Int × Int) × Nat)} {k at' : Nat} {L : List (Int × Int)} (h : RSt n l R k L (l.drop at') 0) (hk : k < n) (hB : Byts l) {u n1 v n2 : Nat} {key : Int} (h1 : decU (l.drop at') = some (u, n1)) (h2 : keyOf (lastO L) u = some key) (h3 : decU (l.drop (at' + n1)) = some (v, n2)) (hkey : I64 key) :
    RSt n l R (k + 1) (L ++ [(key, uz v)]) (l.drop (at' + n1 + n2)) 0 :=
  h.next (l1 := l.drop (at' + n1)) (e1 := 0) hk (byts_drop hB _) (Or.inl ⟨rfl, u, n1, h1, h2, by rw [List.drop_drop]⟩) (Or.inl ⟨rfl, rfl, v, n2, h3, rfl, by rw [List.drop_drop]⟩) hkey (by simp)
theorem RSt.no1 {n : Nat} {l : List Int} {R : Option (List (Int × Int) × Nat)} {k : Nat} {L : List (Int × Int)} {l' : List Int} (h : RSt n l R k L l' 0) (hk : k < n) (h1 : decU l' = none) : R = none := by
  have hok := h.ok rfl
  rw [show n - k = (n - (k + 1)) + 1 by omega] at hok
  rw [← hok]; exact rdL_no1 h1 _ _
theorem RSt.no3 {n : Nat} {l : List Int} {R : Option (List (Int × Int) × Nat)} {k at' : Nat} {L : List (Int × Int)} (h : RSt n l R k L (l.drop at') 0) (hk : k < n) {u n1 : Nat} {key : Int} (h1 : decU (l.drop at') = some (u, n1)) (h2 : keyOf (lastO L) u = some key) (h3 : decU (l.drop (at' + n1)) = none) : R = none := by
  have hok := h.ok rfl
  rw [show n - k = (n - (k + 1)) + 1 by omega] at hok
  rw [← hok]; exact rdL_no3 h1 h2 (by rw [List.drop_drop]; exact h3) _ _
set_option maxRecDepth 100000 in
set_option maxHeartbeats 2000000 in
theorem rread_any (S : Nat → Prop) (l : List Int) (v : Value) (w : World) (hl : l.length ≤ 140737488351232) (hy : Byts l) (h : ByV S w l v) :
    Calls Try.prog 49 #[v] w fun r w' => More w w' ∧ ∃ tv, r = .returned (.tuple #[tv, .int .i64 (readT l).2.2, .int .i64 (readT l).1]) ∧ Row (fun _ => True) w' 2 (readT l).2.1.length tv (flat2 (readT l).2.1) := by
  obtain ⟨a, cap, rfl, hr, hp⟩ := h
  obtain ⟨_, _, hs0, hcap⟩ := hr.shape
  cases hs0
  have HR := Lib.hid hr; clear hr
  have HP := Lib.hid hp; clear hp
  have HCAP := Lib.hid hcap; clear hcap
  have HY := Lib.hid hy; clear hy
  have HL := Lib.hid hl; clear hl
  have HML := Lib.hid (show l.length ≤ maxLen by have := HL.out; unfold maxLen; omega)
  obtain ⟨i0, hi0, hz0, hz1, hz2⟩ := info_parts Try.info66
  obtain ⟨RE, hRE⟩ : ∃ RE, readT l = RE := ⟨_, rfl⟩
  rw [hRE]
  have HRE := Lib.hid hRE; clear hRE
  go_enter Try.func49, Try.ntmps49
  go_wp2_with fail
  refine (rUint_any S l _ w HML.out HY.out HR.out).mono ?_
  obtain ⟨D, hD⟩ : ∃ D, decU l = D := ⟨_, rfl⟩
  rw [hD]
  have HD := Lib.hid hD; clear hD
  rintro r w' ⟨rfl, hw'⟩
  rw [hw']
  clear hw' w'
  cases D with
  | none =>
    have HE := Lib.hid (show RE = (6, [], 0) by rw [← HRE.out]; unfold readT; rw [HD.out])
    unfold numR
    go_wp2_with fail
    go_ret3
    exact ⟨World.grownBy.refl _ _, .slice none 0 0, by rw [HE.out]; rfl, by rw [HE.out]; exact Row.nil _ _ _ _ _⟩
  | some x =>
    obtain ⟨n, n0⟩ := x
    have HU := Lib.hid (decU_bound HY.out HD.out)
    unfold numR
    simp only []
    have hn : (n : Int) ≤ 18446744073709551615 := by have := HU.out.1; omega
    by_cases hlim : 4096 < n
    · have HE := Lib.hid (show RE = (3, [], 0) by rw [← HRE.out]; unfold readT; rw [HD.out]; simp only []; rw [if_pos hlim])
      go_wp2_with fail
      go_ret3
      exact ⟨World.grownBy.refl _ _, .slice none 0 0, by rw [HE.out]; rfl, by rw [HE.out]; exact Row.nil _ _ _ _ _⟩
    · obtain ⟨R, hR, hRR⟩ := st_start (l1 := l.drop n0) (e1 := 0) HY.out (Or.inl ⟨rfl, n0, HD.out, rfl⟩) hlim (by simp)
      have HS := Lib.hid hR
      have HRR := Lib.hid (show RE = resR R by rw [← HRE.out]; exact hRR)
      clear hR hRR hn
      have hn0 : n0 ≤ l.length := HU.out.2.2.1
      go_wp2_with fail
      go_loopw [6, 8, 9] (fun p lv i wr => ∃ (k at' : Nat) (L : List (Int × Int)), k ≤ n ∧ at' ≤ l.length ∧ p = .int .i64 at' ∧ i = .int .i64 k ∧ Hid (RSt n l R k L (l.drop at') 0) ∧ Hid (More w wr) ∧ Hid (wr.ownsRow w.heap.size 66 2 lv L.length (flat2 L))) (fun _ _ i _ => n - (intOf i).toNat)
      case atStart => exact ⟨0, n0, [], Nat.zero_le _, hn0, rfl, rfl, HS, Lib.hid (World.grownBy.refl _ _), Lib.hid (World.ownsRow_nil _ _ _ _)⟩
      case round =>
        obtain ⟨k, p, L, hk, hpl, rfl, rfl, HST, HM, HO⟩ := hrel
        obtain ⟨la, lc, rfl, hoo⟩ := owns_shape HO.out
        have HOO := Lib.hid hoo; clear hoo
        clear hn0
        by_cases hkn : k < n
        · obtain ⟨a1, hp1, hsl1, hrow1⟩ := slice_fromB a l.length cap p hpl HCAP.out HP.out
          have HR1 := Lib.hid (show Row S wr 1 (l.drop p).length (.slice a1 (l.drop p).length (cap - p)) (bV (l.drop p)) by rw [List.length_drop]; exact hrow1 S wr l rfl (HR.out.below HM.out.below))
          clear hrow1 hp1
          have HSL1 := Lib.hid hsl1
          have hll : (l.length : Int) ≤ 140737488351232 := by have := HL.out; omega
          have hLk : L.length < 4096 := by have := HST.out.len; omega
          have hsz := HM.out.size
          obtain ⟨D1, hD1⟩ : ∃ D1, decU (l.drop p) = D1 := ⟨_, rfl⟩
          have HD1 := Lib.hid hD1
          have HC1 := Lib.hid (show Calls Try.prog 93 #[.slice a1 (l.length - p) (cap - p)] wr fun e w' => e = .returned (numR D1 .i64) ∧ w' = wr by
            have := rUint_any S (l.drop p) (.slice a1 (l.drop p).length (cap - p)) wr (by have := HML.out; rw [List.length_drop]; omega) (byts_drop HY.out _) HR1.out
            rw [hD1, List.length_drop] at this; exact this)
          clear hD1
          go_wp2_with fail
          refine HC1.out.mono ?_
          rintro r w' ⟨rfl, hw'⟩
          rw [hw']
          clear hw' w'
          clear hsl1
          cases D1 with
          | none =>
            have HE := Lib.hid (show RE = (6, [], 0) by rw [HRR.out, HST.out.no1 hkn HD1.out]; rfl)
            unfold numR
            go_wp2_with fail
            go_ret3
            exact ⟨HM.out, .slice none 0 0, by rw [HE.out]; rfl, by rw [HE.out]; exact Row.nil _ _ _ _ _⟩
          | some x =>
            obtain ⟨u, n1⟩ := x
            have HU1 := Lib.hid (decU_bound (byts_drop HY.out p) HD1.out)
            have hp1 : p + n1 ≤ l.length := by have := HU1.out.2.2.1; rw [List.length_drop] at this; omega
            unfold numR
            simp only []
            by_cases hk0 : k = 0
            · have HLN := Lib.hid (show L = [] from List.eq_nil_of_length_eq_zero (by rw [HST.out.len, hk0]))
              have hkz : ¬ 0 < k := by omega
              clear hk0
              have HKO := Lib.hid (show keyOf (lastO L) u = some (uz u) by rw [HLN.out]; rfl)
              have HK64 := Lib.hid (uz_i64 HU1.out.1)
              go_wp2_with fail
              refine (runz_any u _ HU1.out.1).mono ?_
              rintro r w' ⟨rfl, hw'⟩
              rw [hw']
              clear hw' w'
              obtain ⟨key, hky⟩ : ∃ key, uz u = key := ⟨_, rfl⟩
              rw [hky] at HKO HK64
              rw [hky]
              clear hky
              obtain ⟨a2, hp2, hsl2, hrow2⟩ := slice_fromB a l.length cap (p + n1) hp1 HCAP.out HP.out
              have HR2 := Lib.hid (show Row S wr 1 (l.drop (p + n1)).length (.slice a2 (l.drop (p + n1)).length (cap - (p + n1))) (bV (l.drop (p + n1))) by rw [List.length_drop]; exact hrow2 S wr l rfl (HR.out.below HM.out.below))
              clear hrow2 hp2
              obtain ⟨D2, hD2⟩ : ∃ D2, decU (l.drop (p + n1)) = D2 := ⟨_, rfl⟩
              have HD2 := Lib.hid hD2
              have HC2 := Lib.hid (show Calls Try.prog 93 #[.slice a2 (l.length - (p + n1)) (cap - (p + n1))] wr fun e w' => e = .returned (numR D2 .i64) ∧ w' = wr by
                have := rUint_any S (l.drop (p + n1)) (.slice a2 (l.drop (p + n1)).length (cap - (p + n1))) wr (by have := HML.out; rw [List.length_drop]; omega) (byts_drop HY.out _) HR2.out
                rw [hD2, List.length_drop] at this; exact this)
              clear hD2
              have hsl2' : ∀ w, (Instr.slice 80 (.slice a l.length cap) (some (.int .i64 ((p : Int) + (n1 : Int)))) none none).run Try.prog w = .ok (.slice a2 (l.length - (p + n1)) (cap - (p + n1))) w := hsl2
              clear hsl2
              go_wp2_with fail
              refine HC2.out.mono ?_
              rintro r w' ⟨rfl, hw'⟩
              rw [hw']
              clear hw' w' hsl2'
              cases D2 with
              | none =>
                have HE := Lib.hid (show RE = (6, [], 0) by rw [HRR.out, HST.out.no3 hkn HD1.out HKO.out HD2.out]; rfl)
                unfold numR
                go_wp2_with fail
                go_ret3
                exact ⟨HM.out, .slice none 0 0, by rw [HE.out]; rfl, by rw [HE.out]; exact Row.nil _ _ _ _ _⟩
              | some x2 =>
                obtain ⟨v2, n2⟩ := x2
                have HU2 := Lib.hid (decU_bound (byts_drop HY.out (p + n1)) HD2.out)
                have hp2 : p + n1 + n2 ≤ l.length := by have := HU2.out.2.2.1; rw [List.length_drop] at this; omega
                have HNX := Lib.hid (HST.out.next0 hkn HY.out HD1.out HKO.out HD2.out HK64.out)
                unfold numR
                simp only []
                have hm1 : L.length + 1 ≤ maxLen := by unfold maxLen; omega
                have hm2 : (L.length + 1) * 16 ≤ 140737488355328 := by omega
                go_wp2_with fail
                refine (runz_any v2 _ HU2.out.1).mono ?_
                rintro r w' ⟨rfl, hw'⟩
                rw [hw']
                clear hw' w'
                obtain ⟨y, hy⟩ : ∃ y, uz v2 = y := ⟨_, rfl⟩
                rw [hy] at HNX
                rw [hy]
                clear hy
                go_wp2_with (at_builtin; refine wpList_append_lies _ rfl _ _ _ rfl w.heap.size 66 i0 _ 2 16 Try.underlying58 hi0 hz0 hz1 hz2 rfl (by omega) (.slice la L.length lc) L.length (flat2 L) rfl (HO.out.alloc _) ⟨wr.heap.size, 0, none⟩ 1 1 [.int .i64 key, .int .i64 y] rfl rfl (World.news_of_block (cs := #[.int .i64 key, .int .i64 y]) (t := 66) (fr := (0, 0)) (heap_alloc_new _ _)) (by simp [Value.oneCell']) (by omega) hm1 hm2 (Nat.le_trans hsz (by rw [World.size_alloc]; exact Nat.le_succ _)) _ rfl ?_; intro gg cap2 w5 hown5 hgrow5 hat5 hlt5)
                obtain ⟨hm5, ho5⟩ := row_app (x := (key, y)) HM.out HO.out hgrow5 hown5
                have HM5 := Lib.hid hm5
                have HO5 := Lib.hid (show w5.ownsRow w.heap.size 66 2 (.slice (some ⟨gg, 0, none⟩) (L.length + 1) cap2) (L ++ [(key, y)]).length (flat2 (L ++ [(key, y)])) from ho5)
                clear hown5 hgrow5 hat5 hlt5 hm5 ho5
                go_wp2_with fail
                go_roundw
                case rel => exact ⟨k + 1, p + n1 + n2, L ++ [(key, y)], by omega, hp2, by go_num, by go_num, HNX, HM5, HO5⟩
                case measure => simp [intOf]; omega
            · obtain ⟨k', rfl⟩ : ∃ k', k = k' + 1 := ⟨k - 1, by omega⟩
              clear hk0
              have hkL : k' < L.length := by rw [HST.out.len]; omega
              obtain ⟨g, gc, hge, hgB, cq⟩ := owns_cell HO.out (flat2_get L k' hkL).1
              cases hge
              have HLO := Lib.hid (lastO_get (L := L) (k := k') (by rw [HST.out.len]))
              have hq := HST.out.wf _ (List.getElem_mem hkL)
              generalize L[k'].1 = q at *
              obtain ⟨q0, q1⟩ := hq
              have bq := cell_lt cq
              have hLk' : L.length ≤ lc := by
                obtain ⟨_, h0 | ⟨_, _, _, e, _, _, hc, _⟩⟩ := HO.out
                · cases h0.1
                · cases e; exact hc
              have hu : (u : Int) ≤ 18446744073709551615 := by have := HU1.out.1; omega
              go_wp2_with fail
              refine (runz_any u _ HU1.out.1).mono ?_
              rintro r w' ⟨rfl, hw'⟩
              rw [hw']
              clear hw' w'
              by_cases hfar : 9223372036854775807 - q ≤ (u : Int)
              · have HE := Lib.hid (show RE = (6, [], 0) by rw [HRR.out, HST.out.far hkn HLO.out (Or.inl ⟨u, n1, HD1.out, hfar⟩)]; rfl)
                have hfar' : IntKind.u64.wrap (9223372036854775807 - IntKind.u64.wrap q) ≤ (u : Int) := by rw [wrap_max q0 q1]; exact hfar
                clear hfar
                go_wp2_with fail
                go_ret3
                exact ⟨HM.out, .slice none 0 0, by rw [HE.out]; rfl, by rw [HE.out]; exact Row.nil _ _ _ _ _⟩
              · have hfar' : (u : Int) < IntKind.u64.wrap (9223372036854775807 - IntKind.u64.wrap q) := by rw [wrap_max q0 q1]; omega
                have hkey := wrap_key (h0 := Int.natCast_nonneg u) q0 q1 (show (u : Int) < 9223372036854775807 - q by omega)
                have HKO := Lib.hid (show keyOf (lastO L) u = some (q + u + 1) by rw [HLO.out, keyOf_some, if_neg hfar])
                have HK64 := Lib.hid (show I64 (q + u + 1) from ⟨by omega, by omega⟩)
                clear hfar
                obtain ⟨key, hky⟩ : ∃ key, q + (u : Int) + 1 = key := ⟨_, rfl⟩
                rw [hky] at hkey HKO HK64
                clear hky
                obtain ⟨a2, hp2, hsl2, hrow2⟩ := slice_fromB a l.length cap (p + n1) hp1 HCAP.out HP.out
                have HR2 := Lib.hid (show Row S wr 1 (l.drop (p + n1)).length (.slice a2 (l.drop (p + n1)).length (cap - (p + n1))) (bV (l.drop (p + n1))) by rw [List.length_drop]; exact hrow2 S wr l rfl (HR.out.below HM.out.below))
                clear hrow2 hp2
                obtain ⟨D2, hD2⟩ : ∃ D2, decU (l.drop (p + n1)) = D2 := ⟨_, rfl⟩
                have HD2 := Lib.hid hD2
                have HC2 := Lib.hid (show Calls Try.prog 93 #[.slice a2 (l.length - (p + n1)) (cap - (p + n1))] wr fun e w' => e = .returned (numR D2 .i64) ∧ w' = wr by
                  have := rUint_any S (l.drop (p + n1)) (.slice a2 (l.drop (p + n1)).length (cap - (p + n1))) wr (by have := HML.out; rw [List.length_drop]; omega) (byts_drop HY.out _) HR2.out
                  rw [hD2, List.length_drop] at this; exact this)
                clear hD2
                have hsl2' : ∀ w, (Instr.slice 80 (.slice a l.length cap) (some (.int .i64 ((p : Int) + (n1 : Int)))) none none).run Try.prog w = .ok (.slice a2 (l.length - (p + n1)) (cap - (p + n1))) w := hsl2
                clear hsl2
                go_wp2_with fail
                refine HC2.out.mono ?_
                rintro r w' ⟨rfl, hw'⟩
                rw [hw']
                clear hw' w' hsl2'
                cases D2 with
                | none =>
                  have HE := Lib.hid (show RE = (6, [], 0) by rw [HRR.out, HST.out.no3 hkn HD1.out HKO.out HD2.out]; rfl)
                  unfold numR
                  go_wp2_with fail
                  go_ret3
                  exact ⟨HM.out, .slice none 0 0, by rw [HE.out]; rfl, by rw [HE.out]; exact Row.nil _ _ _ _ _⟩
                | some x2 =>
                  obtain ⟨v2, n2⟩ := x2
                  have HU2 := Lib.hid (decU_bound (byts_drop HY.out (p + n1)) HD2.out)
                  have hp2 : p + n1 + n2 ≤ l.length := by have := HU2.out.2.2.1; rw [List.length_drop] at this; omega
                  have HNX := Lib.hid (HST.out.next0 hkn HY.out HD1.out HKO.out HD2.out HK64.out)
                  unfold numR
                  simp only []
                  have hm1 : L.length + 1 ≤ maxLen := by unfold maxLen; omega
                  have hm2 : (L.length + 1) * 16 ≤ 140737488355328 := by omega
                  go_wp2_with fail
                  refine (runz_any v2 _ HU2.out.1).mono ?_
                  rintro r w' ⟨rfl, hw'⟩
                  rw [hw']
                  clear hw' w'
                  obtain ⟨y, hy⟩ : ∃ y, uz v2 = y := ⟨_, rfl⟩
                  rw [hy] at HNX
                  rw [hy]
                  clear hy
                  go_wp2_with (at_builtin; refine wpList_append_lies _ rfl _ _ _ rfl w.heap.size 66 i0 _ 2 16 Try.underlying58 hi0 hz0 hz1 hz2 rfl (by omega) (.slice (some ⟨g, 0, none⟩) L.length lc) L.length (flat2 L) rfl (HO.out.alloc _) ⟨wr.heap.size, 0, none⟩ 1 1 [.int .i64 key, .int .i64 y] rfl rfl (World.news_of_block (cs := #[.int .i64 key, .int .i64 y]) (t := 66) (fr := (0, 0)) (heap_alloc_new _ _)) (by simp [Value.oneCell']) (by omega) hm1 hm2 (Nat.le_trans hsz (by rw [World.size_alloc]; exact Nat.le_succ _)) _ rfl ?_; intro gg cap2 w5 hown5 hgrow5 hat5 hlt5)
                  obtain ⟨hm5, ho5⟩ := row_app (x := (key, y)) HM.out HO.out hgrow5 hown5
                  have HM5 := Lib.hid hm5
                  have HO5 := Lib.hid (show w5.ownsRow w.heap.size 66 2 (.slice (some ⟨gg, 0, none⟩) (L.length + 1) cap2) (L ++ [(key, y)]).length (flat2 (L ++ [(key, y)])) from ho5)
                  clear hown5 hgrow5 hat5 hlt5 hm5 ho5
                  go_wp2_with fail
                  go_roundw
                  case rel => exact ⟨k' + 1 + 1, p + n1 + n2, L ++ [(key, y)], by omega, hp2, by go_num, by go_num, HNX, HM5, HO5⟩
                  case measure => simp [intOf]; omega
        · have HRD := Lib.hid (HST.out.done hkn)
          have HE := Lib.hid (show RE = (0, L, p) by rw [HRR.out, HRD.out, List.length_drop, show l.length - (l.length - p) = p by omega]; rfl)
          go_wp2_with fail
          go_ret3
          exact ⟨HM.out, .slice la L.length lc, by rw [HE.out]; rfl, by rw [HE.out]; exact (Row.of_owns HO.out).mono (fun _ _ => trivial) (fun _ _ _ _ h => h)⟩
end Go.Proofs.Ytekhoanjpnjaeaa

