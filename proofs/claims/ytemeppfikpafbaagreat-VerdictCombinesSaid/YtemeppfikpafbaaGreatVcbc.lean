/- Texts CmbW, Law, Facts, laid together. -/
import Derived.Deep.QuietTactic
import Derived.BigQuiet
import Derived.Deep.CutBlock
import Derived.Carry
import Derived.ChangeSame
import Derived.ProofKit
import Derived.JoinedOf
import Derived.Test.YtemeppfikpafbaaGreatRows
import Derived.KernelRfl
import Derived.Test.YtemeppfikpafbaaGreatVcc
import Derived.Test.YtemeppfikpafbaaGreatVcw
import Derived.Test.YtemeppfikpafbaaGreatVcz
import Derived.Test.YtemeppfikpafbaaGreatVcba
import Derived.Test.YtemeppfikpafbaaGreatVcbb
/- The law VerdictCombines (4): the walk (under way). -/
namespace Go.Proofs.YtemeppfikpafbaaGreat
open Go.RowKit
theorem ListsAt.more {w w' : World} {ls : List LV} {v : Value} (h : ListsAt w ls v) (hm : More w w') : ListsAt w' ls v :=
  ⟨h.row.below hm.below, fun p hp => (h.inner p hp).below hm.below, fun p hp q hq => CauAt.more (h.each p hp q hq) hm, h.len, h.lens⟩
theorem stN_u8 (cb : Bool) (o : Nat) (i : Int) : 0 ≤ stN cb o i ∧ stN cb o i < 256 := by
  unfold stN
  split
  · split <;> omega
  · omega
theorem same_join {ls ls2 : List LV} {A : List CV} {cb : Bool} {R : List Tld} {L : List RTd} {tv av lv : Value} {W : World} (hp : ls2.Perm ls) (hA : RkA (preV ls ls.length) A) (hR : ToldR (keyL ls2) ls2.length cb R) (hL : RfL (ls.map fun p => posL A p.2) cb A.length L) (h36 : A.length ≤ 36)
    (hr : Row anyB W 5 R.length tv (flatC tC R)) (ha : Row anyB W 2 A.length av (flatC qC A)) (hl : Row anyB W 4 L.length lv (flatC rC L)) (hT : ∀ t ∈ R, TldAt W t) (hC : ∀ a ∈ A, CauAt W a.2.2 a.1 a.2.1) :
    Calls Tryz.prog 15 #[tv, av, lv] W fun e w' => e = .returned (.bool true) ∧ More W w' := by
  obtain ⟨hlen, hag⟩ := join_same hL (join_told hp hA hR hL)
  have h1 := hL.len
  exact same15_any R A L tv av lv W hr ha hl hT hC hlen (by omega) (by omega) (fun t ht => by rw [(hR.num t ht).2.2]; exact stN_u8 _ _ _) hag
theorem lC_oneL {L : List LV} (h : ∀ p ∈ L, p.1.oneCell' = true) : ∀ u ∈ flatC lC L, u.oneCell' = true := by
  intro u hu
  unfold flatC at hu
  obtain ⟨x, hx, hu⟩ := List.mem_flatMap.1 hu
  simp only [lC, List.mem_cons, List.not_mem_nil, or_false] at hu
  subst hu; exact h x hx
theorem posL_len (A P : List CV) : (posL A P).length ≤ P.length * A.length := by
  induction P with
  | nil => simp [posL]
  | cons q P ih =>
    have h : posL A (q :: P) = posV A (kV q) A.length ++ posL A P := by unfold posL; rw [List.flatMap_cons]
    rw [h, List.length_append, List.length_cons, Nat.add_mul, Nat.one_mul]
    have := posV_len A (kV q) A.length
    omega
theorem fnd_le : ∀ (ls : List LV) (i : Int) (m : Nat), (∀ p ∈ ls, p.2.length ≤ m) → (fndL ls i).length ≤ ls.length * m
  | [], _, _, _ => by simp [fndL]
  | p :: r, i, m, h => by
    have h1 := fnd_le r (i + 1) m fun q hq => h q (List.mem_cons_of_mem _ hq)
    have h2 := h p (by simp)
    unfold fndL
    rw [List.length_append, List.length_map, List.length_cons, Nat.add_mul, Nat.one_mul]
    omega
set_option maxRecDepth 100000 in
set_option maxHeartbeats 4000000 in
theorem combines_walk (rs : List RL) (v : Value) (cb : Bool) (k : Nat) (w : World) (h : RawsAt w rs v) (hk : k ≤ 255) :
    Calls Tryz.prog 4 #[v, .bool cb, .int .u8 k] w fun e w' => e = .returned (.bool true) ∧ Below w.heap.size w w' := by
  obtain ⟨va, vc, rfl, _⟩ := h.row.shape
  have HRS := Lib.hid h
  have hrl : rs.length ≤ maxLen := h.len
  unfold maxLen at hrl
  clear h
  obtain ⟨i0, hi0, hz0, hz1, hz2⟩ := info_parts infoC
  obtain ⟨i1, hi1, hy0, hy1, hy2⟩ := info_parts info25Q
  obtain ⟨N, HN⟩ : ∃ N, Hid (N = w.heap.size) := ⟨_, Lib.hid rfl⟩
  go_enter Tryz.func4, Tryz.ntmps4
  go_upto_block 0 with (fail)
  go_cut [7] (fun t wx => ∃ ls : List LV, Hid (AllT N wx t ls) ∧ Hid (Below N w wx) ∧ Hid (ls.length ≤ 6) ∧ Hid (∀ p ∈ ls, p.2.length ≤ 6))
  case first =>
    as_aux_lemma =>
      go_wp2_with fail
      go_loopw [7, 8] (fun t i wr => ∃ (j : Nat) (ls : List LV), j ≤ rs.length ∧ j ≤ 6 ∧ i = .int .i64 j ∧ Hid (AllT N wr t ls) ∧ Hid (Below N w wr) ∧ Hid (ls.length = j) ∧ Hid (∀ p ∈ ls, p.2.length ≤ 6)) (fun _ i _ => rs.length - (intOf i).toNat)
      case atStart => exact ⟨0, [], Nat.zero_le _, Nat.zero_le _, rfl, Lib.hid (AllT.nil _ _), Lib.hid (Below.refl _ _), Lib.hid rfl, Lib.hid (fun p h => by simp at h)⟩
      case round =>
        obtain ⟨j, ls, hj, hj6, rfl, HT, HB, HL, H6⟩ := hrel
        have HMW := Lib.hid (show More w wr from by have := HB.out; rw [HN.out] at this; exact more_of this)
        by_cases hlt : j < rs.length
        · by_cases hlt6 : j < 6
          · have jz6 : (j : Int) < 6 := by omega
            obtain ⟨b, off, rfl, _, hc⟩ := HRS.out.row.atC rlC_len hlt
            have g0 := HMW.out.cell (hc 0 rs[j].1 rfl)
            rw [Nat.add_zero, Nat.mul_one] at g0
            clear hc
            have HIN := Lib.hid (HRS.out.inner _ (List.getElem_mem hlt))
            have HEA := Lib.hid (HRS.out.each _ (List.getElem_mem hlt))
            have hpl := HRS.out.lens _ (List.getElem_mem hlt)
            have HLT := Lib.hid hlt
            generalize rs[j] = p at *
            obtain ⟨pv, pl⟩ := p
            dsimp only at *
            obtain ⟨pa, pc, rfl, _⟩ := HIN.out.shape
            have hbg := cell_lt g0
            unfold maxLen at hpl
            obtain ⟨wq, rfl⟩ : ∃ wq : World, wq = wr := ⟨_, rfl⟩
            have HQ0 := Lib.hid (AllQ.nil wq)
            have HM1 := Lib.hid (more_alloc wq (.cells #[] 34))
            obtain ⟨N2, HN2⟩ : ∃ N2, Hid (N2 = wq.heap.size) := ⟨_, Lib.hid rfl⟩
            go_upto_region 6 with (fail)
            rw [← HN2.out] at HQ0 ⊢
            obtain ⟨wo, HWO⟩ : ∃ wo, Hid (wo = wq.alloc (.cells #[] 34)) := ⟨_, Lib.hid rfl⟩
            rw [← HWO.out] at HQ0 HM1 ⊢
            have g1 := HM1.out.cell g0
            have hbg1 := cell_lt g1
            have HSO := Lib.hid (show N2 ≤ wo.heap.size by rw [HN2.out]; exact HM1.out.size)
            go_wp2_with fail
            go_loopw [9, 10] (fun u i wx => ∃ (m : Nat) (l : List CV), m ≤ pl.length ∧ m ≤ 6 ∧ i = .int .i64 m ∧ Hid (AllQ N2 wx u l) ∧ Hid (Below N2 wo wx) ∧ Hid (l.length = m)) (fun _ i _ => pl.length - (intOf i).toNat)
            case atStart => exact ⟨0, [], Nat.zero_le _, Nat.zero_le _, rfl, HQ0, Lib.hid (Below.refl _ _), Lib.hid rfl⟩
            case round =>
              obtain ⟨m, l, hm, hm6, rfl, HQ, HBQ, HLQ⟩ := hrel
              obtain ⟨wx, rfl⟩ : ∃ wx : World, wx = wr := ⟨_, rfl⟩
              have HMX := Lib.hid (show More wq wx from by
                have h1 := HM1.out.below
                rw [← HN2.out] at h1
                have h2 := h1.trans HBQ.out
                rw [HN2.out] at h2
                exact more_of h2)
              have HMZ := Lib.hid (more_trans HMW.out HMX.out)
              have gx := HMX.out.cell g0
              have hbx := cell_lt gx
              by_cases hmt : m < pl.length
              · by_cases hmt6 : m < 6
                · have mz6 : (m : Int) < 6 := by omega
                  obtain ⟨b2, off2, hab, _, hc⟩ := HIN.out.atC rvC_len hmt
                  subst hab
                  have e0 := HMZ.out.cell (hc 0 pl[m].1.1 rfl)
                  have e1 := HMZ.out.cell (hc 1 pl[m].1.2 rfl)
                  rw [Nat.add_zero] at e0
                  clear hc
                  have HRW := Lib.hid ((HEA.out _ (List.getElem_mem hmt)).below HMZ.out.below)
                  have HMT := Lib.hid hmt
                  generalize pl[m] = r at *
                  obtain ⟨⟨kv, mv⟩, ks, ms⟩ := r
                  dsimp only at *
                  obtain ⟨ka, kc, rfl, _⟩ := HRW.out.rk.shape
                  obtain ⟨ma, mc, rfl, _⟩ := HRW.out.rm.shape
                  have HC11 := Lib.hid (cause11_any ks ms _ _ wx HRW.out)
                  clear HRW
                  generalize ks.length = nk at *
                  generalize ms.length = nm at *
                  have hbe := cell_lt e0
                  have hl6 : l.length ≤ 5 := by have := HLQ.out; omega
                  obtain ⟨qa, qc, rfl, _⟩ := owns_shape HQ.out.own
                  have HQZ := Lib.hid (fun z hz => (HQ.out.own.lt z hz))
                  have HSX := Lib.hid (show N2 ≤ wx.heap.size by have h1 := HBQ.out.size; have := HSO.out; omega)
                  have hm1 : l.length + 1 ≤ maxLen := by unfold maxLen; omega
                  have hm2 : (l.length + 1) * 48 ≤ 140737488355328 := by omega
                  go_wp2_with (first
                    | (go_at_call 11; refine HC11.out.mono ?_; rintro e w8 ⟨⟨c, u, h, rfl, hcs⟩, hb8⟩; obtain ⟨cua, cuc, rfl, _⟩ := hcs.at.ru.shape; obtain ⟨cha, chc, rfl, _⟩ := hcs.at.rh.shape; have HM8 := Lib.hid (more_of hb8); have HQ8 := Lib.hid ((HQ.out.more HM8.out).more (more_alloc w8 (.cells #[.slice cua c.undo.length cuc, .slice cha c.hold.length chc] 34))); have HCS := Lib.hid hcs; clear hcs hb8; have HS8 := Lib.hid (Nat.le_trans HSX.out HM8.out.size))
                    | (at_builtin; refine wpList_append_lies _ rfl _ _ 25 rfl N2 34 i0 _ 2 48 Tryz.underlying25 hi0 hz0 hz1 hz2 rfl (by omega) (.slice qa l.length qc) l.length (flatC qC l) rfl HQ8.out.own ⟨w8.heap.size, 0, none⟩ 1 1 [.slice cua c.undo.length cuc, .slice cha c.hold.length chc] rfl rfl (World.news_of_block (cs := #[.slice cua c.undo.length cuc, .slice cha c.hold.length chc]) (t := 34) (fr := (0, 0)) (alloc_last _ _)) (by simp [Value.oneCell']) (by omega) hm1 hm2 (by rw [World.size_alloc]; exact Nat.le_succ_of_le HS8.out) (w8.heap.size + 1) (by simp) ?_; intro gg cap8 w9 hown9 hgrow9 hat9 _))
                  have HQ9 := Lib.hid (HQ8.out.push (q := (.slice cua c.undo.length cuc, .slice cha c.hold.length chc, c)) (CauS.mono HCS.out (fun b hb _ => ⟨fun e => by have h2 := (HQZ.out b e).2; have h3 : wx.heap.size ≤ b := hb; omega, by have h3 : wx.heap.size ≤ b := hb; have := HSX.out; omega⟩) (fun b _ hl => (more_alloc w8 _).block hl)) hown9 hgrow9 (fun z hz => by
                    have hz' : gg = z := by simpa [Value.ownBlock] using hz
                    subst hz'
                    rcases hat9 with h | h
                    · exact Or.inl h
                    · right; rw [h]; simp))
                  have HB9 := Lib.hid (show Below N2 wo w9 from ((HBQ.out.trans (HM8.out.below.mono HSX.out)).alloc HS8.out _).grown hgrow9 (by rw [World.size_alloc]; exact Nat.le_succ_of_le HS8.out) (fun z hz => (HQZ.out z hz).1))
                  have HL9 := Lib.hid (show (l ++ [((.slice cua c.undo.length cuc, .slice cha c.hold.length chc, c) : CV)]).length = m + 1 by rw [List.length_append, List.length_singleton, HLQ.out])
                  clear hown9 hgrow9 hat9
                  have hmt9 := HMT.out
                  go_wp2_with fail
                  go_roundw
                  case rel => exact ⟨m + 1, l ++ [(.slice cua c.undo.length cuc, .slice cha c.hold.length chc, c)], by omega, by omega, by go_num, HQ9, HB9, HL9⟩
                  case measure => simp [intOf]; omega
                · obtain rfl : m = 6 := by omega
                  have hl6 : l.length ≤ 6 := by have := HLQ.out; omega
                  have hls6 : ls.length ≤ 6 := by have := HL.out; omega
                  obtain ⟨qa, qc, rfl, _⟩ := owns_shape HQ.out.own
                  obtain ⟨ta, tc, rfl, _⟩ := owns_shape HT.out.own
                  have HTX := Lib.hid ((HT.out.more HMX.out).more (more_alloc wx (.cells #[.slice qa l.length qc] 25)))
                  have HTZ := Lib.hid (fun z hz => (HT.out.own.lt z hz))
                  have HLE := Lib.hid (show LsE (fun b => (Value.slice ta ls.length tc).ownBlock ≠ some b) (wx.alloc (.cells #[.slice qa l.length qc] 25)) (.slice qa l.length qc, l) from by
                    have h1 : LsE (fun b => (Value.slice ta ls.length tc).ownBlock ≠ some b) wx (.slice qa l.length qc, l) := ⟨(Row.of_owns HQ.out.own).mono (fun b hb e => by
                      have h2 := (HTZ.out b e).2
                      have h3 : N2 ≤ b := hb
                      have := HN2.out
                      omega) (fun _ _ _ _ h => h), fun q hq => CauS.mono (HQ.out.ent q hq) (fun b hb _ e => by
                      have h2 := (HTZ.out b e).2
                      have h3 : N2 ≤ b := hb.2
                      have := HN2.out
                      omega) (fun _ _ _ => rfl)⟩
                    exact h1.mono (fun _ hb _ => hb) (fun b _ hl => (more_alloc wx _).block hl))
                  have HSX := Lib.hid (show N ≤ wx.heap.size by have h1 := HB.out.size; have h2 := HMX.out.size; have := HN.out; omega)
                  have HBX := Lib.hid (show Below N w wx from HB.out.trans (HMX.out.below.mono (by have h1 := HB.out.size; have := HN.out; omega)))
                  have hm1 : ls.length + 1 ≤ maxLen := by unfold maxLen; omega
                  have hm2 : (ls.length + 1) * 24 ≤ 140737488355328 := by omega
                  have HL9 := Lib.hid (show (ls ++ [((.slice qa l.length qc, l) : LV)]).length = j + 1 by rw [List.length_append, List.length_singleton, HL.out])
                  have H69 := Lib.hid (show ∀ p ∈ ls ++ [((.slice qa l.length qc, l) : LV)], p.2.length ≤ 6 from fun p hp => by
                    rcases List.mem_append.1 hp with h | h
                    · exact H6.out p h
                    · rw [List.mem_singleton] at h; subst h; exact hl6)
                  have hlt9 := HLT.out
                  go_wp2_with (at_builtin; refine wpList_append_lies _ rfl _ _ 37 rfl N 25 i1 _ 1 24 Tryz.underlying37 hi1 hy0 hy1 hy2 rfl (by omega) (.slice ta ls.length tc) ls.length (flatC lC ls) rfl HTX.out.own ⟨wx.heap.size, 0, none⟩ 1 1 [.slice qa l.length qc] rfl rfl (World.news_of_block (cs := #[.slice qa l.length qc]) (t := 25) (fr := (0, 0)) (alloc_last _ _)) (by simp [Value.oneCell']) (by omega) hm1 hm2 (by rw [World.size_alloc]; exact Nat.le_succ_of_le HSX.out) (wx.heap.size + 1) (by simp) ?_; intro gg cap8 w8 hown8 hgrow8 hat8 _)
                  have HT8 := Lib.hid (HTX.out.push (p := (.slice qa l.length qc, l)) HLE.out hown8 hgrow8 (fun z hz => by
                    have hz' : gg = z := by simpa [Value.ownBlock] using hz
                    subst hz'
                    rcases hat8 with h | h
                    · exact Or.inl h
                    · right; rw [h]; simp))
                  have HB8 := Lib.hid (show Below N w w8 from (HBX.out.alloc HSX.out _).grown hgrow8 (by rw [World.size_alloc]; exact Nat.le_succ_of_le HSX.out) (fun z hz => (HTZ.out z hz).1))
                  clear hown8 hgrow8 hat8
                  go_wp2_with fail
                  go_roundw
                  case rel => exact ⟨j + 1, ls ++ [(.slice qa l.length qc, l)], by omega, by omega, by go_num, HT8, HB8, HL9, H69⟩
                  case measure => simp [intOf]; omega
              · obtain rfl : m = pl.length := by omega
                have hl6 : l.length ≤ 6 := by have := HLQ.out; omega
                have hls6 : ls.length ≤ 6 := by have := HL.out; omega
                obtain ⟨qa, qc, rfl, _⟩ := owns_shape HQ.out.own
                obtain ⟨ta, tc, rfl, _⟩ := owns_shape HT.out.own
                have HTX := Lib.hid ((HT.out.more HMX.out).more (more_alloc wx (.cells #[.slice qa l.length qc] 25)))
                have HTZ := Lib.hid (fun z hz => (HT.out.own.lt z hz))
                have HLE := Lib.hid (show LsE (fun b => (Value.slice ta ls.length tc).ownBlock ≠ some b) (wx.alloc (.cells #[.slice qa l.length qc] 25)) (.slice qa l.length qc, l) from by
                  have h1 : LsE (fun b => (Value.slice ta ls.length tc).ownBlock ≠ some b) wx (.slice qa l.length qc, l) := ⟨(Row.of_owns HQ.out.own).mono (fun b hb e => by
                    have h2 := (HTZ.out b e).2
                    have h3 : N2 ≤ b := hb
                    have := HN2.out
                    omega) (fun _ _ _ _ h => h), fun q hq => CauS.mono (HQ.out.ent q hq) (fun b hb _ e => by
                    have h2 := (HTZ.out b e).2
                    have h3 : N2 ≤ b := hb.2
                    have := HN2.out
                    omega) (fun _ _ _ => rfl)⟩
                  exact h1.mono (fun _ hb _ => hb) (fun b _ hl => (more_alloc wx _).block hl))
                have HSX := Lib.hid (show N ≤ wx.heap.size by have h1 := HB.out.size; have h2 := HMX.out.size; have := HN.out; omega)
                have HBX := Lib.hid (show Below N w wx from HB.out.trans (HMX.out.below.mono (by have h1 := HB.out.size; have := HN.out; omega)))
                have hm1 : ls.length + 1 ≤ maxLen := by unfold maxLen; omega
                have hm2 : (ls.length + 1) * 24 ≤ 140737488355328 := by omega
                have HL9 := Lib.hid (show (ls ++ [((.slice qa l.length qc, l) : LV)]).length = j + 1 by rw [List.length_append, List.length_singleton, HL.out])
                have H69 := Lib.hid (show ∀ p ∈ ls ++ [((.slice qa l.length qc, l) : LV)], p.2.length ≤ 6 from fun p hp => by
                  rcases List.mem_append.1 hp with h | h
                  · exact H6.out p h
                  · rw [List.mem_singleton] at h; subst h; exact hl6)
                have hlt9 := HLT.out
                go_wp2_with (at_builtin; refine wpList_append_lies _ rfl _ _ 37 rfl N 25 i1 _ 1 24 Tryz.underlying37 hi1 hy0 hy1 hy2 rfl (by omega) (.slice ta ls.length tc) ls.length (flatC lC ls) rfl HTX.out.own ⟨wx.heap.size, 0, none⟩ 1 1 [.slice qa l.length qc] rfl rfl (World.news_of_block (cs := #[.slice qa l.length qc]) (t := 25) (fr := (0, 0)) (alloc_last _ _)) (by simp [Value.oneCell']) (by omega) hm1 hm2 (by rw [World.size_alloc]; exact Nat.le_succ_of_le HSX.out) (wx.heap.size + 1) (by simp) ?_; intro gg cap8 w8 hown8 hgrow8 hat8 _)
                have HT8 := Lib.hid (HTX.out.push (p := (.slice qa l.length qc, l)) HLE.out hown8 hgrow8 (fun z hz => by
                  have hz' : gg = z := by simpa [Value.ownBlock] using hz
                  subst hz'
                  rcases hat8 with h | h
                  · exact Or.inl h
                  · right; rw [h]; simp))
                have HB8 := Lib.hid (show Below N w w8 from (HBX.out.alloc HSX.out _).grown hgrow8 (by rw [World.size_alloc]; exact Nat.le_succ_of_le HSX.out) (fun z hz => (HTZ.out z hz).1))
                clear hown8 hgrow8 hat8
                go_wp2_with fail
                go_roundw
                case rel => exact ⟨j + 1, ls ++ [(.slice qa l.length qc, l)], by omega, by omega, by go_num, HT8, HB8, HL9, H69⟩
                case measure => simp [intOf]; omega
          · obtain rfl : j = 6 := by omega
            go_wp2_with fail
            go_meet
            exact ⟨ls, HT, HB, Lib.hid (by rw [HL.out]; exact Nat.le_refl _), H6⟩
        · obtain rfl : j = rs.length := by omega
          go_wp2_with fail
          go_meet
          exact ⟨ls, HT, HB, Lib.hid (by rw [HL.out]; exact hj6), H6⟩
  case rest =>
    obtain ⟨ls, HT, HB, HL6, H66⟩ := hcut
    obtain ⟨w1, rfl⟩ : ∃ w1 : World, w1 = wc := ⟨_, rfl⟩
    have HLA := Lib.hid (HT.out.lists HL6.out H66.out)
    have HTN := Lib.hid (owns_nil HT.out.own)
    have HF := Lib.hid (fnd_le ls 0 6 H66.out)
    obtain ⟨ta, tc, rfl, _⟩ := owns_shape HT.out.own
    have HC12 := Lib.hid (rank12_any ls _ w1 HLA.out HL6.out H66.out)
    have HSN := Lib.hid (show N ≤ w1.heap.size by have := HB.out.size; rw [HN.out]; exact this)
    clear HT
    obtain ⟨o, HO⟩ : ∃ o, Hid (ls.length = o) := ⟨_, Lib.hid rfl⟩
    rw [HO.out] at HC12 HLA HTN HL6 ⊢
    have ho6 := HL6.out
    go_upto_region 12 with (go_at_call 12; refine HC12.out.mono ?_; rintro e w2 ⟨⟨A, I, va', vi, rfl, hRK, hal, hrow, hcau, hnil, hI, hri, hrin⟩, hb2⟩)
    have HIL := Lib.hid (show I.length ≤ 6 by have h1 := congrArg List.length hI; simp only [List.length_map] at h1; rw [h1, HO.out]; exact HL6.out)
    have HLN := Lib.hid (show ∀ p ∈ I, p.2.length ≤ 1000 from fun p hp => by
      have h1 : p.2 ∈ I.map (·.2) := List.mem_map.2 ⟨p, hp, rfl⟩
      rw [hI] at h1
      obtain ⟨q, hq, e⟩ := List.mem_map.1 h1
      have h2 := posL_len A q.2
      have h3 := H66.out q hq
      have h4 := Nat.mul_le_mul h3 hal
      rw [← e]; omega)
    obtain ⟨aa, ac, rfl, _⟩ := hrow.shape
    have HC13 := Lib.hid (ref13_any I vi A.length cb w2 HIL.out hal hri hrin HLN.out)
    have HRK := Lib.hid hRK
    have HROW := Lib.hid hrow
    have HCAU := Lib.hid hcau
    have HI := Lib.hid hI
    have HAL := Lib.hid hal
    have HM2 := Lib.hid (more_of hb2)
    clear hRK hal hrow hcau hnil hI hri hrin hb2 HC12
    obtain ⟨n, HA⟩ : ∃ n, Hid (A.length = n) := ⟨_, Lib.hid rfl⟩
    rw [HA.out] at HC13 HROW HAL ⊢
    go_upto_region 13 with (go_at_call 13; refine HC13.out.mono ?_; rintro e w3 ⟨⟨L, lv, rfl, hRL, hrl⟩, hb3⟩)
    have HRL := Lib.hid (show RfL (ls.map fun p => posL A p.2) cb A.length L by rw [← HI.out, HA.out]; exact hRL)
    have HRW := Lib.hid hrl
    have HM3 := Lib.hid (more_of hb3)
    obtain ⟨la, lc, rfl, _⟩ := hrl.shape
    clear hRL hrl hb3 HC13
    have HM13 := Lib.hid (more_trans HM2.out HM3.out)
    have HAW := Lib.hid (fun W => awake14_any W)
    have HCB := Lib.hid (fun W (hW : More w3 W) => combine_all ls (.slice ta o tc) cb W (HLA.out.more (more_trans HM13.out hW)) (by have := HF.out; have := HO.out; omega))
    have HSJ := Lib.hid (fun (ls2 : List LV) (hp : ls2.Perm ls) (R : List Tld) (tv : Value) (W : World) (hW : More w3 W) (hR : ToldR (keyL ls2) ls2.length cb R) (hr : Row anyB W 5 R.length tv (flatC tC R)) (hT : ∀ t ∈ R, TldAt W t) => same_join (av := .slice aa n ac) hp (by rw [HO.out]; exact HRK.out) hR HRL.out (by have := HAL.out; have := HA.out; omega) hr (by rw [HA.out]; exact HROW.out.below (more_trans HM3.out hW).below) (HRW.out.below hW.below) hT (fun a ha => CauAt.more (HCAU.out a ha) (more_trans HM3.out hW)))
    generalize L.length = ll at *
    by_cases ho : o = 0
    · subst ho
      have HA1 := trivial
      go_wp2_with (first
        | (go_at_call 14; have HA1x := HA1; clear HA1; refine (HAW.out _).mono ?_; rintro e w4 ⟨rfl, hb4⟩; have HM4 := Lib.hid (more_of hb4); clear hb4)
        | (go_at_call 16; refine (HCB.out _ HM4.out).mono ?_; rintro e w5 ⟨⟨R, tv, rfl, hr, hT, hR⟩, hb5⟩; have HM5 := Lib.hid (more_trans HM4.out (more_of hb5)); have HS5 := Lib.hid (HSJ.out ls (List.Perm.refl _) R tv w5 HM5.out hR hr hT); clear hb5 hr hT hR)
        | (go_at_call 15; refine HS5.out.mono ?_; rintro e w6 ⟨rfl, hm6⟩; have HM6 := Lib.hid (more_trans HM5.out hm6); clear hm6)
        | (go_at_call 14; refine (HAW.out _).mono ?_; rintro e w7 ⟨rfl, hb7⟩; have HM7 := Lib.hid (more_trans HM6.out (more_of hb7)); clear hb7))
      go_ret
      exact ⟨rfl, by rw [← HN.out]; exact HB.out.trans ((more_trans HM13.out HM7.out).below.mono HSN.out)⟩
    · have ho1 : ((o : Int) == 0) = false := beq_eq_false_iff_ne.2 (by omega)
      have ho2 : (0 : Int) < (o : Int) := by omega
      have HA1 := trivial
      obtain ⟨t, ht, hmod⟩ : ∃ t : Nat, t < o ∧ Int.tmod (k : Int) (o : Int) = (t : Int) := ⟨k % o, Nat.mod_lt _ (by omega), by rw [← Int.ofNat_tmod]⟩
      have hmod2 : IntKind.i64.wrap (t : Int) = (t : Int) := by rw [IntKind.wrap_i64]; omega
      have hkw : IntKind.i64.wrap (k : Int) = (k : Int) := by rw [IntKind.wrap_i64]; omega
      go_upto_region 16 with (first
        | (go_at_call 14; refine (HAW.out _).mono ?_; rintro e w4 ⟨rfl, hb4⟩; have HM4 := Lib.hid (more_of hb4); clear hb4)
        | (go_at_call 16; refine (HCB.out _ HM4.out).mono ?_; rintro e w5 ⟨⟨R, tv, rfl, hr, hT, hR⟩, hb5⟩; have HM5 := Lib.hid (more_trans HM4.out (more_of hb5)); have HS5 := Lib.hid (HSJ.out ls (List.Perm.refl _) R tv w5 HM5.out hR hr hT); clear hb5 hr hT hR)
        | (go_at_call 15; refine HS5.out.mono ?_; rintro e w6 ⟨rfl, hm6⟩; have HM6 := Lib.hid (more_trans HM5.out hm6); clear hm6))
      have HM16 := Lib.hid (more_trans HM13.out HM6.out)
      have HL6' := Lib.hid (HLA.out.more HM16.out)
      obtain ⟨⟨ga2, hs1, hr1, hn1'⟩, hs2, hr2, hn2⟩ := slice37 (c := lC) lC_len ta o tc t (by omega) HO.out (show Row anyB w6 1 o (.slice ta o tc) (flatC lC ls) from by have := HL6'.out.row; rw [HO.out] at this; exact this) HTN.out
      have HONE := Lib.hid (show ∀ p ∈ ls, p.1.oneCell' = true from fun p hp => by
        obtain ⟨_, _, e1, _⟩ := (HLA.out.inner p hp).shape
        rw [e1]; rfl)
      have HO1 := Lib.hid (lC_oneL (L := ls.drop t) fun a ha => HONE.out a (List.mem_of_mem_drop ha))
      have HO2 := Lib.hid (lC_oneL (L := ls.take t) fun a ha => HONE.out a (List.mem_of_mem_take ha))
      rw [List.length_drop, HO.out] at hr1
      rw [show (ls.take t).length = t by rw [List.length_take, HO.out]; omega] at hr2
      have HPM := Lib.hid (show (ls.drop t ++ ls.take t).Perm ls from (List.perm_append_comm).trans (by rw [List.take_append_drop]))
      have HLEN := Lib.hid (show (ls.drop t ++ ls.take t).length = (o - t) + t by rw [HPM.out.length_eq, HO.out]; omega)
      have hn1p : 0 < o - t := by omega
      have hn1q : o - t ≤ 6 := by omega
      have htq : t ≤ 6 := by omega
      have hnt : o - t + t ≤ 6 := by omega
      generalize o - t = n1 at *
      generalize tc - t = c1 at *
      obtain ⟨N3, HN3⟩ : ∃ N3, Hid (N3 = w6.heap.size) := ⟨_, Lib.hid rfl⟩
      have HML := Lib.hid (show More w6 ((w6.alloc (.cells #[] 25)).drew) from more_trans (more_alloc _ _) (more_drew _))
      have HOE := Lib.hid (show ((w6.alloc (.cells #[] 25)).drew).ownsRow N3 25 1 (.slice (some ⟨w6.heap.size, 0, none⟩) 0 0) 0 [] by rw [HN3.out]; exact ownsRow_empty w6 25 1)
      have HR1 := Lib.hid (hr1.below HML.out.below)
      have HR2 := Lib.hid hr2
      have HN1 := Lib.hid hn1'
      have HN2 := Lib.hid hn2
      have hm1 : 0 + n1 ≤ maxLen := by unfold maxLen; omega
      have hm2 : (0 + n1) * 24 ≤ 140737488355328 := by omega
      have hm3 : n1 + t ≤ maxLen := by unfold maxLen; omega
      have hm4 : (n1 + t) * 24 ≤ 140737488355328 := by omega
      have hb7 : N3 ≤ ((w6.alloc (.cells #[] 25)).drew).heap.size := by rw [HN3.out]; exact HML.out.size
      clear hr1 hr2 hn1' hn2
      go_region_held3 (fun _ => True) (exact trivial)
        (first
          | (have HA1x := HA1; clear HA1; refine step_append_rowC (by rfl) _ _ _ (by rfl) N3 25 i1 _ 1 24 Tryz.underlying37 hi1 hy0 hy1 hy2 (by rfl) (by omega) (.slice (some ⟨w6.heap.size, 0, none⟩) 0 0) 0 [] (by rfl) HOE.out (.slice ga2 n1 c1) n1 (flatC lC (ls.drop t)) (by rfl) HR1.out HN1.out HO1.out hm1 hm2 hb7 ?_; intro v8 w8 hown8 hgrow8; rw [Nat.zero_add] at hown8; obtain ⟨g8, cp8, rfl, _, _⟩ := hown8.form (by omega); have HB8 := Lib.hid (show Below N3 w6 w8 from (by have h1 := HML.out.below; rw [← HN3.out] at h1; exact h1.grown hgrow8 hb7 (fun z hz => by have e9 : w6.heap.size = z := Option.some.inj hz; have := HN3.out; omega))); have HR28 := Lib.hid (HR2.out.below (more_of (by rw [← HN3.out]; exact HB8.out)).below); have hb8 : N3 ≤ w8.heap.size := Nat.le_trans hb7 hgrow8.size; have HOZ8 := Lib.hid (fun z hz => (hown8.lt z hz).1); clear hgrow8)
          | (refine step_append_rowC (by rfl) _ _ _ (by rfl) N3 25 i1 _ 1 24 Tryz.underlying37 hi1 hy0 hy1 hy2 (by rfl) (by omega) (.slice (some ⟨g8, 0, none⟩) n1 cp8) n1 ([] ++ flatC lC (ls.drop t)) (by rfl) hown8 (.slice ta t tc) t (flatC lC (ls.take t)) (by rfl) HR28.out HN2.out HO2.out hm3 hm4 hb8 ?_; intro v9 w9 hown9 hgrow9; obtain ⟨g9, cp9, rfl, _, _⟩ := hown9.form (by omega); have HM9 := Lib.hid (show More w6 w9 from more_of (by rw [← HN3.out]; exact HB8.out.grown hgrow9 hb8 HOZ8.out)); have HL9 := Lib.hid ((HL6'.out.more HM9.out).row2 (ls2 := ls.drop t ++ ls.take t) (v2 := .slice (some ⟨g9, 0, none⟩) (n1 + t) cp9) (by rw [HLEN.out, flatC_append]; exact (Row.of_owns hown9).mono (fun _ _ => trivial) (fun _ _ _ _ h => h)) (fun p hp => HPM.out.mem_iff.1 hp) (by rw [HLEN.out]; omega)); clear hgrow9 hown9)
          | (go_at_call 16; refine (combine_all (ls.drop t ++ ls.take t) _ cb w9 HL9.out (by have := fnd_le (ls.drop t ++ ls.take t) 0 6 (fun p hp => H66.out p (HPM.out.mem_iff.1 hp)); have := HLEN.out; omega)).mono ?_; rintro e wA ⟨⟨R2, tv2, rfl, hr, hT, hR⟩, hbA⟩; have HMA := Lib.hid (more_trans HM9.out (more_of hbA)); have HSA := Lib.hid (HSJ.out (ls.drop t ++ ls.take t) HPM.out R2 tv2 wA (more_trans HM6.out HMA.out) hR hr hT); clear hbA hr hT hR)
          | (go_at_call 15; refine HSA.out.mono ?_; rintro e wB ⟨rfl, hmB⟩; have HMB := Lib.hid (more_trans HMA.out hmB); clear hmB))
      all_goals
        go_wp2_with fail
        go_ret
        exact ⟨rfl, by rw [← HN.out]; exact HB.out.trans ((more_trans HM16.out HMB.out).below.mono HSN.out)⟩
end Go.Proofs.YtemeppfikpafbaaGreat

/- The last step of every law: the call returned true and changed nothing that was there. -/
namespace Go.Proofs.YtemeppfikpafbaaGreat
open Go.RowKit Go.WideShapes Go.ChangeShapes
section
variable {H : Type} {enc : TypeId × Value → H} {P : Program}
theorem trodAll_stays (hl : laidOutB P = true) {W W' : World} (hb : Below W.heap.size W W') : ∀ (ts : List TypeId) (vs : List Value) (ds : List (DataW H)) (ps : List MemPlace),
    (∀ t ∈ ts, P.readableRec t = true ∧ t < P.types.size) → (∀ p ∈ ps, p.block < W.heap.size) → DataW.TrodAll enc P W 0 (fun _ => true) true ts vs ds ps → DataW.TrodAll enc P W' 0 (fun b => decide (b < W.heap.size)) true ts vs ds ps
  | [], [], [], ps, _, _, h => h
  | t :: ts, v :: vs, d :: ds, ps, ht, hp, h => by
    obtain ⟨p, q, h1, h2, rfl⟩ := h
    exact ⟨p, q, Below.trod hl (ht t List.mem_cons_self).1 (ht t List.mem_cons_self).2 h1 hb (fun x hx => hp x (List.mem_append_left _ hx)),
      trodAll_stays hl hb ts vs ds q (fun t' h' => ht t' (List.mem_cons_of_mem _ h')) (fun x hx => hp x (List.mem_append_right _ hx)) h2, rfl⟩
theorem law_post {f : Func} {s : ChangeSpec} {B : TypeId} {W W' : World} {args : Array Value} {ds gs : List (DataW H)} {before : List MemPlace}
    (hl : laidOutB P = true) (hok : ∀ t ∈ f.params.toList, P.readableRec t = true ∧ t < P.types.size) (hv : s.vars = []) (hres : f.resultTypes = #[B]) (hB : P.underlying B = some .bool)
    (hW : DataW.Whole enc P f.params.toList s.vars false W args.toList ds gs before)
    (hfn : (s.fn H (ds ++ gs)).results = [.lit (.bool true)]) (hfa : (s.fn H (ds ++ gs)).args = ds) (hfv : (s.fn H (ds ++ gs)).vars = []) (hb : Below W.heap.size W W') :
    s.post enc P f false true false false W args (.bool true) W' := by
  obtain ⟨p, q, hA, hV, hps, hz, hn⟩ := hW
  rw [hv] at hV
  obtain ⟨rfl, rfl⟩ := trodVars_none hV
  have hlt : ∀ x ∈ p, x.block < W.heap.size := fun x hx => DataW.Whole.lt (show DataW.Whole enc P f.params.toList s.vars false W args.toList ds [] before from ⟨p, [], hA, by rw [hv]; exact hV, hps, hz, hn⟩) x (by rw [hps]; simpa using hx)
  refine ⟨ds, [], before, [], p, [], ⟨p, [], hA, by rw [hv]; exact hV, hps, hz, hn⟩, ?_, ?_, ?_, World.keptBut_mono (fun x hx => ⟨hx, ?_⟩) (hb.frame (· ∈ before)), fun h => by cases h⟩
  · rw [hfn, hres]
    exact ⟨[], [], shut_bool hB true, rfl, rfl⟩
  · rw [hfa]; exact trodAll_stays hl hb _ _ _ _ hok hlt hA
  · rw [hfv, hv]; rfl
  · rw [hps] at hx; simp at hx; exact Or.inr (Or.inl hx)

/-- The closed facts of a row, each by itself (one declaration for all of them wants too much memory). -/
theorem closed_of {P : Program} {f : FuncId} {fn : Func} {s : ChangeSpec} {c : OpenClaim}
    (k1 : c.wf (OpenSpec.ofChange s) = true) (k2 : laidOutB P = true) (k3 : mapsRowed P = true) (k4 : fn.params.all (P.readableRec ·) = true) (k5 : namedTie P c.named s.vars = true)
    (k6 : (c.stops == []) = true) (k7 : (P.stops == []) = true) (k8 : (c.knobs == []) = true) (k9 : (P.stopKnobs == []) = true)
    (k10 : (c.inPlace == P.inPlace f) = true) (k11 : (c.unfollowed == P.unfollowed f) = true) (k12 : (c.recurses == P.recurses f) = true) (k13 : (c.named == P.varsNamed f) = true)
    (k14 : (c.maps == (fn.params.toList ++ s.plain.varTypes P).any (P.mapsRec ·)) = true) (k15 : (c.ifaces == (fn.params.toList ++ s.plain.varTypes P).any (P.ifacesRec ·)) = true) (k16 : (c.mapsOut == P.mapsAmong fn.resultTypes.toList) = true)
    (k17 : (c.loops == (fn.params.toList ++ s.plain.varTypes P).any (P.loopsFrom ·)) = true) (k17b : (c.wideKeys == (fn.params.toList ++ s.plain.varTypes P ++ fn.resultTypes.toList).any (P.wideKeysFrom ·)) = true)
    (k18 : s.vars.all (P.varReadable ·) = true) (k19 : fn.resultTypes.all (fun t => P.readableRec t && decide (t < P.types.size)) = true) (k20 : (c.ifacesOut == fn.resultTypes.toList.any (P.ifacesRec ·)) = true) (k21 : (c.loopsOut == fn.resultTypes.toList.any (P.loopsFrom ·)) = true)
    (k22 : (c.plainKeys == P.plainKeys) = true) (k23 : c.shortTexts.isNone = true) (k23b : P.stopsHeard = true) (k24 : P.mayEnter = true) (k24b : (c.lifted == P.liftsFinal) = true) (k24c : (P.make == some c.make) = true)
    (k25 : c.domain.isEmpty = true ∧ (c.kinds == []) = true) (k26 : (c.pinned == c.pinnedBy) = true)
    (k27 : (c.veiled == (fn.params.toList ++ s.plain.varTypes P ++ fn.resultTypes.toList).any (P.veiledRec ·)) = true) (k28 : c.veiledFits P fn.params.toList (fn.params.toList ++ s.plain.varTypes P ++ fn.resultTypes.toList) = true) :
    joinedFacts P f fn s c = true := by
  unfold joinedFacts
  rw [k1, k2, k3, k4, k5, k6, k7, k8, k9, k10, k11, k12, k13, k14, k15, k16, k17, k17b, k18, k19, k20, k21, k22, k23, k23b, k24, k24b, k24c, if_pos k25.1, k25.2, k26, k27, k28]
  rfl
end
end Go.Proofs.YtemeppfikpafbaaGreat

/- Closed facts on the loaded program, each by itself: every row of this seat asks them. -/
namespace Go.Proofs.YtemeppfikpafbaaGreat
theorem kOwn : ownKnob Tryz.prog.godebug = none := by kernel_rfl
theorem kMaps : mapsRowed Tryz.prog = true := by kernel_rfl
theorem kStops : (Tryz.prog.stops == []) = true := by kernel_rfl
theorem kKnobs : (Tryz.prog.stopKnobs == []) = true := by kernel_rfl
theorem kKeys : (Rows.rankBestRow.plainKeys == Tryz.prog.plainKeys) = true := by kernel_rfl
theorem kHeard : Tryz.prog.stopsHeard = true := by kernel_rfl
theorem kEnter : Tryz.prog.mayEnter = true := by kernel_rfl
theorem kMake : (Tryz.prog.make == some Rows.rankBestRow.make) = true := by kernel_rfl
theorem kLift : (Rows.rankBestRow.lifted == Tryz.prog.liftsFinal) = true := by kernel_rfl
end Go.Proofs.YtemeppfikpafbaaGreat

