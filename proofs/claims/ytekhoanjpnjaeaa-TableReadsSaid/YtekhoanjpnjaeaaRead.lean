/- table.Read (48). -/
import Derived.Test.YtekhoanjpnjaeaaReadI
import Derived.Laws.AppendOwnNone
import Derived.Laws.BitsLemmas
namespace Go.Proofs.Ytekhoanjpnjaeaa
open Go.RowKit
theorem wrap_max {q : Int} (q0 : -9223372036854775808 ≤ q) (q1 : q ≤ 9223372036854775807) : IntKind.u64.wrap (9223372036854775807 - IntKind.u64.wrap q) = 9223372036854775807 - q := by
  rw [IntKind.wrap_u64, IntKind.wrap_u64]; omega
theorem wrap_key {q u : Int} (q0 : -9223372036854775808 ≤ q) (q1 : q ≤ 9223372036854775807) (hu : u < 9223372036854775807 - q) {h0 : 0 ≤ u} : wrap64 (IntKind.u64.wrap (IntKind.u64.wrap (IntKind.u64.wrap q + u) + 1)) = q + u + 1 := by
  unfold wrap64
  rw [IntKind.wrap_u64, IntKind.wrap_u64, IntKind.wrap_u64]; omega
set_option maxRecDepth 100000 in
set_option maxHeartbeats 2000000 in
theorem read_any (S : Nat → Prop) (l : List Int) (v : Value) (w : World) (hl : l.length ≤ 140737488355328) (hy : Byts l) (h : ByV S w l v) :
    Calls Try.prog 48 #[v] w fun r w' => More w w' ∧ ∃ tv, r = .returned (.tuple #[.agg #[tv], .int .i64 (readT l).2.2, .int .i64 (readT l).1]) ∧ TV w' (readT l).2.1 tv := by
  obtain ⟨a, cap, rfl, _⟩ : ∃ a cap, v = .slice a l.length cap ∧ True := by obtain ⟨a, cap, e, _⟩ := h; exact ⟨a, cap, e, trivial⟩
  have HV := Lib.hid h; clear h
  have HY := Lib.hid hy; clear hy
  have HL := Lib.hid hl; clear hl
  obtain ⟨i0, hi0, hz0, hz1, hz2⟩ := info_parts Try.info151
  obtain ⟨RE, hRE⟩ : ∃ RE, readT l = RE := ⟨_, rfl⟩
  rw [hRE]
  have HRE := Lib.hid hRE; clear hRE
  go_enter Try.func48, Try.ntmps48
  go_wp2_with fail
  have hm1 : More w (w.alloc (.cells #[.slice none 0 0] 54)) := World.grownBy_alloc _ _ _
  have hx1 := Boxed.new w 54 (.slice none 0 0)
  generalize w.alloc (.cells #[.slice none 0 0] 54) = w1 at *
  have HM1 := Lib.hid hm1
  have HX1 := Lib.hid hx1
  clear hm1 hx1
  refine (newR_any S l _ w1 HL.out HY.out (HV.out.below HM1.out.below)).mono ?_
  rintro r w2 ⟨rb, rfl, hm2, hrb, hrd⟩
  have HB2 := Lib.hid (show RMem w rb w2.heap.size w.heap.size [] l 0 (.slice none 0 0) w2 from
    { rd := hrd, own := World.ownsRow_nil _ _ _ _, box := HX1.out.kept hm2 (by simp), below := (more_trans HM1.out hm2).below, size := Nat.le_refl _, order := ⟨Nat.le_refl _, Nat.lt_of_lt_of_le HX1.out.lt hrb, hrd.lt⟩ })
  clear hm2 hrb hrd
  go_wp2_with fail
  refine (rdU_st rb l w2 HB2.out.rd).mono ?_
  rintro r w3 ⟨n, l1, e1, rfl, hg3, hrd3, hn64, hl1, hst⟩
  have HB3 := Lib.hid (HB2.out.rdr hg3 hrd3)
  have HST := Lib.hid hst
  have HL1 := Lib.hid hl1
  clear hg3 hrd3 hst hl1
  have hn : (n : Int) ≤ 18446744073709551615 := by omega
  by_cases hlim : 4096 < n
  · have HE := Lib.hid (show RE = (3, [], 0) by rw [← HRE.out]; exact readT_limit HST.out hlim)
    have cR := HB3.out.box.cell
    have fR := HB3.out.box.frozen
    have bR := HB3.out.box.lt
    have hres := setCell_eq (u := .slice none 0 0) cR
    go_wp2_with fail
    exact bodyPost_ret (v := .tuple #[.agg #[.slice none 0 0], .int .i64 0, .int .i64 3]) (by simp [results, Try.results48, go_sem, hres]) rfl ⟨more_of (HB3.out.below.setCell (p := ⟨w.heap.size, 0, none⟩) (Nat.le_refl _) _), .slice none 0 0, by rw [HE.out]; rfl, by rw [HE.out]; exact TV.nil _⟩
  · obtain ⟨R, hR, hRR⟩ := st_start HY.out HST.out hlim HL1.out
    have HS := Lib.hid hR
    have HRR := Lib.hid (show RE = resR R by rw [← HRE.out]; exact hRR)
    clear hR hRR HST HL1 hn64 hn
    obtain ⟨B, hB⟩ : ∃ B, w2.heap.size = B := ⟨_, rfl⟩
    rw [hB] at HB3
    clear hB HB2 HM1 HX1
    go_wp2_with fail
    go_loopw [7, 8] (fun lv i wr => ∃ (k : Nat) (L : List (Int × Int)) (l' : List Int) (e : Int), k ≤ n ∧ i = .int .u64 k ∧ Hid (RSt n l R k L l' e) ∧ Hid (RMem w rb B w.heap.size L l' e lv wr)) (fun _ i _ => n - (intOf i).toNat)
    case atStart => exact ⟨0, [], l1, e1, Nat.zero_le _, rfl, HS, HB3⟩
    case round =>
      obtain ⟨k, L, l', e, hk, rfl, HST, HME⟩ := hrel
      obtain ⟨la, lc, rfl, hoo⟩ := owns_shape HME.out.own
      have HOO := Lib.hid hoo; clear hoo
      by_cases hkn : k < n
      · by_cases he : e = 0
        · subst he
          have HNE := Lib.hid (show (Value.slice la L.length lc).ownBlock ≠ some wr.heap.size from fun h => by have := (HOO.out _ h).2; omega)
          have HMA := Lib.hid (HME.out.more (World.grownBy_alloc wr (.cells #[.int .i64 0, .int .i64 0] 151) none))
          have HXA := Lib.hid (alloc_last wr (.cells #[.int .i64 0, .int .i64 0] 151))
          by_cases hk0 : k = 0
          · have tk : ((k : Int) == 0) = true := by rw [hk0]; rfl
            have HK0 := Lib.hid hk0; clear hk0
            have HLN := Lib.hid (show L = [] from List.eq_nil_of_length_eq_zero (by rw [HST.out.len, HK0.out]))
            go_wp2_with fail
            refine (rErr_any rb l' 0 wr HME.out.rd).mono ?_
            rintro r w' ⟨rfl, hw'⟩
            rw [hw']
            clear hw' w'
            go_wp2_with fail
            refine (rdI_st rb l' 0 _ HMA.out.rd).mono ?_
            rintro r wB ⟨key, l1, e1, rfl, hg, hrd, hk64, hlen1, hst⟩
            have HKS := Lib.hid (show KeySt L l' key l1 e1 by
              rw [HLN.out]
              rcases hst with ⟨_, he1, u, n1, hd, rfl, rfl⟩ | ⟨_, he1, hd⟩ | ⟨h0, _⟩
              · exact Or.inl ⟨he1, u, n1, hd, rfl, rfl⟩
              · exact Or.inr ⟨he1, hd⟩
              · exact absurd rfl h0)
            have HK64 := Lib.hid hk64
            have HLEN1 := Lib.hid hlen1
            clear hst hk64 hlen1
            have HMB := Lib.hid (HMA.out.rdr hg hrd)
            have hXB := (grown_below hg (by simp) (show wr.heap.size ≠ rb by have := HME.out.size; have := HME.out.order; omega)).trans HXA.out
            have HXB := Lib.hid hXB
            have cX0 : wB.cell? ⟨wr.heap.size, 0, none⟩ = some (.int .i64 0) := by simp [World.cell?, hXB]
            have fX0 : wB.frozen? ⟨wr.heap.size, 0, none⟩ = false := thaw hXB _
            clear hg hrd hXB
            go_wp2_with fail
            have HMC := Lib.hid (HMB.out.put (o := 0) (X := wr.heap.size) HME.out.size HNE.out (.int .i64 key))
            have HXC := Lib.hid (set_block2 HXB.out (.int .i64 key)).1
            generalize wB.setCell ⟨wr.heap.size, 0, none⟩ (.int .i64 key) = wC at *
            refine (rdI_st rb l1 e1 wC HMC.out.rd).mono ?_
            rintro r wD ⟨y, l2, e2, rfl, hg, hrd, hy64, hlen2, hval⟩
            have HMD := Lib.hid (HMC.out.rdr hg hrd)
            have hXD := (grown_below hg (Array.getElem?_eq_some_iff.1 HXC.out).1 (show wr.heap.size ≠ rb by have := HME.out.size; have := HME.out.order; omega)).trans HXC.out
            have HXD := Lib.hid hXD
            have dX0 : wD.cell? ⟨wr.heap.size, 0, none⟩ = some (.int .i64 key) := by simp [World.cell?, hXD]
            have dX1 : wD.cell? ⟨wr.heap.size, 1, none⟩ = some (.int .i64 0) := by simp [World.cell?, hXD]
            have fX1 : wD.frozen? ⟨wr.heap.size, 1, none⟩ = false := thaw hXD _
            have dXl := cell_lt dX1
            have HVAL := Lib.hid hval
            have HLEN2 := Lib.hid hlen2
            clear hg hrd hXD hval hlen2 cX0 fX0
            have HME2 := Lib.hid (HMD.out.put (o := 1) (X := wr.heap.size) HME.out.size HNE.out (.int .i64 y))
            have HNX := Lib.hid (HST.out.next hkn (HME.out.rd.row.elim fun _ h => h.elim fun _ h => h.2.2.1) HKS.out HVAL.out HK64.out (by have := HLEN2.out; have := HLEN1.out; have := HST.out.short; omega))
            have hLk : L.length < 4096 := by have := HST.out.len; omega
            have hm1 : L.length + 1 ≤ maxLen := by unfold maxLen; omega
            have hm2 : (L.length + 1) * 16 ≤ 140737488355328 := by omega
            have HSZ := Lib.hid (show (wD.setCell ⟨wr.heap.size, 1, none⟩ (.int .i64 y)).heap.size = wD.heap.size by simp [World.setCell])
            have HBSZ := Lib.hid (show B ≤ ((wD.setCell ⟨wr.heap.size, 1, none⟩ (.int .i64 y)).alloc (.cells #[.int .i64 key, .int .i64 y] 151)).heap.size by have := HME2.out.size; rw [World.size_alloc]; omega)
            have HNEW := Lib.hid (show ((wD.setCell ⟨wr.heap.size, 1, none⟩ (.int .i64 y)).alloc (.cells #[.int .i64 key, .int .i64 y] 151)).heap[wD.heap.size]? = some (.cells #[.int .i64 key, .int .i64 y] 151) from alloc_at _ _ HSZ.out.symm)
            go_wp2_with (at_builtin; refine wpList_append_lies _ rfl _ _ _ rfl B 151 i0 _ 2 16 Try.underlying52 hi0 hz0 hz1 hz2 rfl (by omega) (.slice la L.length lc) L.length (flat2 L) rfl (HME2.out.own.alloc _) ⟨wD.heap.size, 0, none⟩ 1 1 [.int .i64 key, .int .i64 y] rfl rfl (World.news_of_block (cs := #[.int .i64 key, .int .i64 y]) (t := 151) (fr := (0, 0)) HNEW.out) (by simp [Value.oneCell']) (by omega) hm1 hm2 HBSZ.out _ rfl ?_; intro gg cap2 w5 hown5 hgrow5 hat5 hlt5)
            have HM5 := Lib.hid (HME2.out.app (x := (key, y)) hgrow5 hown5)
            clear hown5 hgrow5 hat5 hlt5
            go_wp2_with fail
            go_roundw
            case rel => exact ⟨k + 1, L ++ [(key, y)], l2, e2, by omega, by go_num, HNX, HM5⟩
            case measure => simp [intOf]; omega
          · obtain ⟨k', rfl⟩ : ∃ k', k = k' + 1 := ⟨k - 1, by omega⟩
            clear hk0
            have hkL : k' < L.length := by rw [HST.out.len]; omega
            obtain ⟨g, gc, hge, hgB, cq⟩ := owns_cell HMA.out.own (flat2_get L k' hkL).1
            cases hge
            have HLO := Lib.hid (lastO_get (L := L) (k := k') (by rw [HST.out.len]))
            have hq := HST.out.wf _ (List.getElem_mem hkL)
            generalize L[k'].1 = q at *
            obtain ⟨q0, q1⟩ := hq
            have bq := cell_lt cq
            have cE := HME.out.rd
            have HCE := Lib.hid cE; clear cE
            go_wp2_with fail
            refine (rErr_any rb l' 0 wr HCE.out).mono ?_
            rintro r w' ⟨rfl, hw'⟩
            rw [hw']
            clear hw' w'
            have hLL := HST.out.len
            have hLk' : L.length ≤ lc := by obtain ⟨_, h0 | ⟨_, _, _, e, _, _, hc, _⟩⟩ := HME.out.own; · cases h0.1
                                            · cases e; exact hc
            have HLL := Lib.hid hLL; clear hLL
            go_wp2_with fail
            refine (rdU_st rb l' _ HMA.out.rd).mono ?_
            rintro r wB ⟨u, l1, e1, rfl, hg, hrd, hu64, hlen1, hst⟩
            have HLEN1 := Lib.hid hlen1
            have HSTU := Lib.hid hst
            clear hst hlen1
            have HMB := Lib.hid (HMA.out.rdr hg hrd)
            have hXB := (grown_below hg (by simp) (show wr.heap.size ≠ rb by have := HME.out.size; have := HME.out.order; omega)).trans HXA.out
            have HXB := Lib.hid hXB
            have cX0 : wB.cell? ⟨wr.heap.size, 0, none⟩ = some (.int .i64 0) := by simp [World.cell?, hXB]
            have fX0 : wB.frozen? ⟨wr.heap.size, 0, none⟩ = false := thaw hXB _
            clear hg hrd hXB
            have hu : (u : Int) ≤ 18446744073709551615 := by omega
            clear cq bq
            by_cases hfar : 9223372036854775807 - q ≤ (u : Int)
            · have HE := Lib.hid (show RE = (6, [], 0) by
                rw [HRR.out, HST.out.far hkn HLO.out (by
                  rcases HSTU.out with ⟨_, n1, hd, _⟩ | ⟨_, hd, _⟩
                  · exact Or.inl ⟨u, n1, hd, hfar⟩
                  · exact Or.inr hd)]; rfl)
              have hfar' : IntKind.u64.wrap (9223372036854775807 - IntKind.u64.wrap q) ≤ (u : Int) := by rw [wrap_max q0 q1]; exact hfar
              clear hfar
              have cR := HMB.out.box.cell
              have fR := HMB.out.box.frozen
              have bR := HMB.out.box.lt
              have hres := setCell_eq (u := .slice none 0 0) cR
              go_wp2_with fail
              exact bodyPost_ret (v := .tuple #[.agg #[.slice none 0 0], .int .i64 0, .int .i64 6]) (by simp [results, Try.results48, go_sem, hres]) rfl ⟨more_of (HMB.out.below.setCell (p := ⟨w.heap.size, 0, none⟩) (Nat.le_refl _) _), .slice none 0 0, by rw [HE.out]; rfl, by rw [HE.out]; exact TV.nil _⟩
            · have hfar' : (u : Int) < IntKind.u64.wrap (9223372036854775807 - IntKind.u64.wrap q) := by rw [wrap_max q0 q1]; omega
              have hkey := wrap_key (h0 := Int.natCast_nonneg u) q0 q1 (show (u : Int) < 9223372036854775807 - q by omega)
              have hkw : I64 (q + u + 1) := ⟨by omega, by omega⟩
              have HKS := Lib.hid (show KeySt L l' (q + u + 1) l1 e1 by
                rcases HSTU.out with ⟨he1, n1, hd, rfl⟩ | ⟨he1, hd, _⟩
                · exact Or.inl ⟨he1, u, n1, hd, by rw [HLO.out, keyOf_some, if_neg hfar], rfl⟩
                · exact Or.inr ⟨he1, hd⟩)
              have HK64 := Lib.hid hkw
              clear hkw hfar
              obtain ⟨key, hky⟩ : ∃ key, q + (u : Int) + 1 = key := ⟨_, rfl⟩
              rw [hky] at hkey HKS HK64
              clear hky
              go_wp2_with fail
              have HMC := Lib.hid (HMB.out.put (o := 0) (X := wr.heap.size) HME.out.size HNE.out (.int .i64 key))
              have HXC := Lib.hid (set_block2 HXB.out (.int .i64 key)).1
              generalize wB.setCell ⟨wr.heap.size, 0, none⟩ (.int .i64 key) = wC at *
              refine (rdI_st rb l1 e1 wC HMC.out.rd).mono ?_
              rintro r wD ⟨y, l2, e2, rfl, hg, hrd, hy64, hlen2, hval⟩
              have HMD := Lib.hid (HMC.out.rdr hg hrd)
              have hXD := (grown_below hg (Array.getElem?_eq_some_iff.1 HXC.out).1 (show wr.heap.size ≠ rb by have := HME.out.size; have := HME.out.order; omega)).trans HXC.out
              have HXD := Lib.hid hXD
              have dX0 : wD.cell? ⟨wr.heap.size, 0, none⟩ = some (.int .i64 key) := by simp [World.cell?, hXD]
              have dX1 : wD.cell? ⟨wr.heap.size, 1, none⟩ = some (.int .i64 0) := by simp [World.cell?, hXD]
              have fX1 : wD.frozen? ⟨wr.heap.size, 1, none⟩ = false := thaw hXD _
              have dXl := cell_lt dX1
              have HVAL := Lib.hid hval
              have HLEN2 := Lib.hid hlen2
              clear hg hrd hXD hval hlen2 cX0 fX0
              have HME2 := Lib.hid (HMD.out.put (o := 1) (X := wr.heap.size) HME.out.size HNE.out (.int .i64 y))
              have HNX := Lib.hid (HST.out.next hkn (HME.out.rd.row.elim fun _ h => h.elim fun _ h => h.2.2.1) HKS.out HVAL.out HK64.out (by have := HLEN2.out; have := HLEN1.out; have := HST.out.short; omega))
              have hLk : L.length < 4096 := by have := HST.out.len; omega
              have hm1 : L.length + 1 ≤ maxLen := by unfold maxLen; omega
              have hm2 : (L.length + 1) * 16 ≤ 140737488355328 := by omega
              have HSZ := Lib.hid (show (wD.setCell ⟨wr.heap.size, 1, none⟩ (.int .i64 y)).heap.size = wD.heap.size by simp [World.setCell])
              have HBSZ := Lib.hid (show B ≤ ((wD.setCell ⟨wr.heap.size, 1, none⟩ (.int .i64 y)).alloc (.cells #[.int .i64 key, .int .i64 y] 151)).heap.size by have := HME2.out.size; rw [World.size_alloc]; omega)
              have HNEW := Lib.hid (show ((wD.setCell ⟨wr.heap.size, 1, none⟩ (.int .i64 y)).alloc (.cells #[.int .i64 key, .int .i64 y] 151)).heap[wD.heap.size]? = some (.cells #[.int .i64 key, .int .i64 y] 151) from alloc_at _ _ HSZ.out.symm)
              go_wp2_with (at_builtin; refine wpList_append_lies _ rfl _ _ _ rfl B 151 i0 _ 2 16 Try.underlying52 hi0 hz0 hz1 hz2 rfl (by omega) (.slice (some ⟨g, 0, none⟩) L.length lc) L.length (flat2 L) rfl (HME2.out.own.alloc _) ⟨wD.heap.size, 0, none⟩ 1 1 [.int .i64 key, .int .i64 y] rfl rfl (World.news_of_block (cs := #[.int .i64 key, .int .i64 y]) (t := 151) (fr := (0, 0)) HNEW.out) (by simp [Value.oneCell']) (by omega) hm1 hm2 HBSZ.out _ rfl ?_; intro gg cap2 w5 hown5 hgrow5 hat5 hlt5)
              have HM5 := Lib.hid (HME2.out.app (x := (key, y)) hgrow5 hown5)
              clear hown5 hgrow5 hat5 hlt5
              go_wp2_with fail
              go_roundw
              case rel => exact ⟨k' + 1 + 1, L ++ [(key, y)], l2, e2, by omega, by go_num, HNX, HM5⟩
              case measure => simp [intOf]; omega
        · have te : (e == 0) = false := beq_eq_false_iff_ne.2 he
          obtain ⟨he6, hRn⟩ := HST.out.bad he
          subst he6
          have HE := Lib.hid (show RE = (6, [], 0) by rw [HRR.out, hRn]; rfl)
          clear hRn he
          go_wp2_with fail
          refine (rErr_any rb l' 6 wr HME.out.rd).mono ?_
          rintro r w' ⟨rfl, hw'⟩
          rw [hw']
          clear hw' w'
          go_wp2_with fail
          refine (rErr_any rb l' 6 _ HME.out.rd).mono ?_
          rintro r w' ⟨rfl, hw'⟩
          rw [hw']
          clear hw' w'
          have cR := HME.out.box.cell
          have fR := HME.out.box.frozen
          have bR := HME.out.box.lt
          have hres := setCell_eq (u := .slice none 0 0) cR
          go_wp2_with fail
          exact bodyPost_ret (v := .tuple #[.agg #[.slice none 0 0], .int .i64 0, .int .i64 6]) (by simp [results, Try.results48, go_sem, hres]) rfl ⟨more_of (HME.out.below.setCell (p := ⟨w.heap.size, 0, none⟩) (Nat.le_refl _) _), .slice none 0 0, by rw [HE.out]; rfl, by rw [HE.out]; exact TV.nil _⟩
      · by_cases he : e = 0
        · subst he
          have HRD := Lib.hid (HST.out.done hkn)
          have HE := Lib.hid (show RE = (0, L, l.length - l'.length) by rw [HRR.out, HRD.out]; rfl)
          go_wp2_with fail
          refine (rErr_any rb l' 0 wr HME.out.rd).mono ?_
          rintro r w' ⟨rfl, hw'⟩
          rw [hw']
          clear hw' w'
          go_wp2_with fail
          refine (rLeft_any rb l' 0 _ HME.out.rd).mono ?_
          rintro r w' ⟨rfl, hw'⟩
          rw [hw']
          clear hw' w'
          have cR := HME.out.box.cell
          have fR := HME.out.box.frozen
          have bR := HME.out.box.lt
          have hres := setCell_eq (u := .slice la L.length lc) cR
          have hsub : (l.length : Int) - (l'.length : Int) = ((l.length - l'.length : Nat) : Int) := by have := HST.out.short; omega
          generalize l.length - l'.length = used at *
          have hl := HL.out
          go_wp2_with fail
          exact bodyPost_ret (v := .tuple #[.agg #[.slice la L.length lc], .int .i64 used, .int .i64 0]) (by simp [results, Try.results48, go_sem, hres]) rfl ⟨more_of (HME.out.below.setCell (p := ⟨w.heap.size, 0, none⟩) (Nat.le_refl _) _), .slice la L.length lc, by rw [HE.out],
            by rw [HE.out]; exact ⟨la, lc, rfl, (Row.of_owns HME.out.own).mono (fun _ _ => trivial) (fun b _ _ hb hu => grown_cell' (setCell_grown' wr w.heap.size 0 _) (by have h3 : B ≤ b := hb; have := HME.out.order; omega) hu), plain_owns HME.out.own⟩⟩
        · obtain ⟨he6, hRn⟩ := HST.out.bad he
          subst he6
          have HE := Lib.hid (show RE = (6, [], 0) by rw [HRR.out, hRn]; rfl)
          clear hRn he
          go_wp2_with fail
          refine (rErr_any rb l' 6 wr HME.out.rd).mono ?_
          rintro r w' ⟨rfl, hw'⟩
          rw [hw']
          clear hw' w'
          have cR := HME.out.box.cell
          have fR := HME.out.box.frozen
          have bR := HME.out.box.lt
          have hres := setCell_eq (u := .slice none 0 0) cR
          go_wp2_with fail
          exact bodyPost_ret (v := .tuple #[.agg #[.slice none 0 0], .int .i64 0, .int .i64 6]) (by simp [results, Try.results48, go_sem, hres]) rfl ⟨more_of (HME.out.below.setCell (p := ⟨w.heap.size, 0, none⟩) (Nat.le_refl _) _), .slice none 0 0, by rw [HE.out]; rfl, by rw [HE.out]; exact TV.nil _⟩
end Go.Proofs.Ytekhoanjpnjaeaa
