/- The reference's Degrees (27). -/
import Derived.Test.YtemeppfikpafbaaJoin
import Derived.Laws.AppendOwnNone
import Derived.Test.YtemeppfikpafbaaInvS
import Derived.Deep.DeepCutAuto
namespace Go.Proofs.Ytemeppfikpafbaa
open Go.RowKit
def tC (x : K4 × Nat) : List Value := [.int .u8 x.1.kind, .int .i64 x.1.a, .int .i64 x.1.b, .int .i64 x.1.n, .int .i64 x.2]
theorem tC_len (x : K4 × Nat) : (tC x).length = 5 := rfl
theorem info127 : (Try.prog.info? 127).map (fun i => (i.zero, i.size, i.bytes)) = some (some (.agg #[.int .u8 0, .int .i64 0, .int .i64 0, .int .i64 0, .int .i64 0]), 5, 40) := by kernel_rfl
theorem kC_one (l : List K4) : ∀ u ∈ flatC kC l, u.oneCell' = true := by
  intro u hu
  unfold flatC at hu
  obtain ⟨x, _, hx⟩ := List.mem_flatMap.1 hu
  simp [kC] at hx
  rcases hx with rfl | rfl | rfl | rfl <;> rfl
theorem keysL_take (l : List Cau) (j : Nat) (h : j < l.length) : keysL (l.take (j + 1)) = keysL (l.take j) ++ l[j].undo := by
  unfold keysL
  rw [List.take_succ_eq_append_getElem h, List.flatMap_append]
  simp
theorem keysL_le (l : List Cau) (j : Nat) : (keysL (l.take j)).length ≤ (keysL l).length := by
  have h : keysL l = keysL (l.take j) ++ keysL (l.drop j) := by unfold keysL; rw [← List.flatMap_append, List.take_append_drop]
  rw [h, List.length_append]; omega
theorem insT_len (x : K4 × Nat) : ∀ l : List (K4 × Nat), (insT x l).length = l.length + 1
  | [] => rfl
  | y :: r => by
    unfold insT
    split
    · rfl
    · simp [insT_len x r]
theorem shF_len (l : List Cau) (ks : List K4) : (shF l ks).length = ks.length := by
  have h : ∀ (ks : List K4) (out : List (K4 × Nat)), (ks.foldl (fun out k => insT (k, jointN l [k]) out) out).length = out.length + ks.length := by
    intro ks
    induction ks with
    | nil => intro out; rfl
    | cons k r ih => intro out; rw [List.foldl_cons, ih, insT_len, List.length_cons]; omega
  have := h ks []
  unfold shF
  simpa using this
theorem shF_mem (l : List Cau) (ks : List K4) (x : K4 × Nat) : x ∈ shF l ks ↔ x.1 ∈ ks ∧ x.2 = jointN l [x.1] := by
  unfold shF
  rw [mem_shF]; simp
theorem stT_le (x : K4 × Nat) : ∀ (l : List (K4 × Nat)) (s : List (K4 × Nat) × Bool), (l.foldl (stT x) s).1.length ≤ s.1.length + 2 * l.length
  | [], s => by simp
  | y :: r, s => by
    have h1 := stT_le x r (stT x s y)
    have h2 : (stT x s y).1.length ≤ s.1.length + 2 := by
      unfold stT
      split <;> simp
    simp only [List.foldl_cons, List.length_cons]; omega
theorem flatK_get {x : K4} {j : Nat} {u : Value} (h : (flatC kC [x])[j]? = some u) : (kC x)[j]? = some u := by simpa [flatC] using h
structure InvD (w3 : World) (KB : Nat) (x : K4) (n : Nat) (la : Value) (b0 b1 b2 b3 b4 b5 b6 b7 : Bool) (x32 x33 x34 x35 x36 x37 x9 : Value) (W : World) : Prop where
  hl : Hid (More w3 W)
  g0 : b0 = true → x32 = .agg #[.int .u8 x.kind, .int .i64 x.a, .int .i64 x.b, .int .i64 x.n]
  g1 : b1 = true → x33 = la
  g2 : b2 = true → x34 = .agg #[.int .u8 x.kind, .int .i64 x.a, .int .i64 x.b, .int .i64 x.n]
  g3 : b3 = true → b4 = false → ∃ B, x35 = .slice (some ⟨B, 0, none⟩) 1 1 ∧ W.heap[B]? = some (.cells #[.int .u8 x.kind, .int .i64 x.a, .int .i64 x.b, .int .i64 x.n] 48)
  g4 : b4 = true → x36 = .int .i64 n
  g5 : b5 = true → x37 = .agg #[.int .u8 x.kind, .int .i64 x.a, .int .i64 x.b, .int .i64 x.n, .int .i64 n]
  g6 : b6 = true → Box W w3.heap.size x9 127 b7 [.int .u8 0, .int .i64 0, .int .i64 0, .int .i64 0, .int .i64 0] [.int .u8 x.kind, .int .i64 x.a, .int .i64 x.b, .int .i64 x.n, .int .i64 n]
  d7 : b7 = true → b6 = true ∧ b4 = true
  d4 : b4 = true → b3 = true
set_option maxRecDepth 100000 in
set_option maxHeartbeats 4000000 in
theorem refDeg_any (l : List Cau) (v : Value) (w : World) (hl : l.length ≤ 400) (hkl : (keysL l).length ≤ 4000) (hok : ∀ c ∈ l, c.Ok) (h : CRow w l v) :
    Calls Try.prog 27 #[v] w fun e w' => ∃ v', e = .returned v' ∧ w'.ownsRow w.heap.size 127 5 v' (refDeg l).length (flatC tC (refDeg l)) ∧ Below w.heap.size w w' := by
  obtain ⟨a, cap, rfl, _⟩ := h.shape
  have HR := Lib.hid h; clear h
  have HOK := Lib.hid hok; clear hok
  have HKL := Lib.hid hkl; clear hkl
  obtain ⟨i0, hi0, hz0, hz1, hz2⟩ := info_parts info48
  obtain ⟨N, hN⟩ : ∃ N, N = w.heap.size := ⟨_, rfl⟩
  have HN := Lib.hid hN
  rw [← hN]
  go_enter Try.func27, Try.ntmps27
  go_wp2_with fail
  clear hN
  go_loopw [3, 16] (fun v i wr => ∃ j : Nat, j ≤ l.length ∧ i = .int .i64 j ∧ Hid (Below N w wr) ∧ Hid (wr.ownsRow N 48 4 v (keysL (l.take j)).length (flatC kC (keysL (l.take j))))) (fun _ i _ => l.length - (intOf i).toNat)
  case atStart => exact ⟨0, Nat.zero_le _, rfl, Lib.hid (Below.refl _ _), Lib.hid (World.ownsRow_nil _ _ _ _)⟩
  case round =>
    obtain ⟨j, hj, rfl, HB, HO⟩ := hrel
    have HNW := Lib.hid (show N ≤ wr.heap.size by rw [HN.out]; exact HB.out.size)
    have HBW := Lib.hid (show Below w.heap.size w wr by rw [← HN.out]; exact HB.out)
    by_cases hlt : j < l.length
    · obtain ⟨b, off, ua, uc, ha, hc, rfl, g0, g1, hcu, hch, hnz, _⟩ := HR.out.at' hlt
      have g0 := below_cell HBW.out g0
      have g1 := below_cell HBW.out g1
      have HU := Lib.hid (hcu.below HBW.out)
      have HT := Lib.hid (keysL_take l j hlt)
      have HLE := Lib.hid (keysL_le l (j + 1))
      generalize l[j] = c at *
      rw [HT.out] at HLE
      have HLEN := Lib.hid (show (keysL (l.take j)).length + c.undo.length ≤ 4000 by have := HLE.out; have := HKL.out; rw [List.length_append] at *; omega)
      generalize keysL (l.take j) = K at *
      have hbg := cell_lt g0
      have HMO := Lib.hid (Lay.alloc wr (.cells #[.slice ua c.undo.length uc, .slice ha c.hold.length hc] 30)).1
      have HB1 := Lib.hid (HB.out.alloc HNW.out (.cells #[.slice ua c.undo.length uc, .slice ha c.hold.length hc] 36))
      have HO1 := Lib.hid (owns_keep HO.out (fun z hz => Below.heap_alloc wr (.cells #[.slice ua c.undo.length uc, .slice ha c.hold.length hc] 36) _ ((owns_shape HO.out).choose_spec.choose_spec.2 z hz).2))
      have HU1 := Lib.hid (HU.out.below (Lay.alloc wr (.cells #[.slice ua c.undo.length uc, .slice ha c.hold.length hc] 36)).1.below)
      clear hcu hch
      obtain ⟨oa, ocap, rfl, _⟩ := owns_shape HO.out
      cases ua with
      | none =>
        obtain rfl := hnz rfl
        have hT : c.undo = [] := by
          cases hcu : c.undo with
          | nil => rfl
          | cons x r =>
            rw [hcu] at HU
            obtain ⟨_, _, he, _⟩ := HU.out.at (by simp)
            cases he
        have HE := Lib.hid hT
        have hlen : c.undo.length = 0 := by rw [hT]; rfl
        rw [hlen] at g0 HO1 HB1 HMO HU1
        clear hT hlen
        go_wp2_with (at_builtin; refine wpList_append_own_none rfl _ _ _ rfl N 48 i0 4 Try.underlying27 hi0 (.slice oa K.length ocap) K.length (flatC kC K) rfl HO1.out rfl ?_)
        go_wp2_with fail
        go_roundw
        case rel => exact ⟨j + 1, by omega, by go_num, HB1, Lib.hid (by rw [HT.out, HE.out, List.append_nil]; exact HO1.out)⟩
        case measure => simp [intOf]; omega
      | some ta =>
        have HNEW := Lib.hid (show ∀ i u, (flatC kC c.undo)[i]? = some u → (wr.alloc (.cells #[.slice (some ta) c.undo.length uc, .slice ha c.hold.length hc] 36)).cell? (ta.add i) = some u from fun i u hu => by
          have hne : c.undo.length ≠ 0 := by
            intro e
            have : c.undo = [] := List.length_eq_zero_iff.1 e
            rw [this] at hu; simp [flatC] at hu
          obtain ⟨b2, off2, he, _, _, hc2⟩ := HU1.out.at hne
          cases he
          rw [Addr.add_lit]
          exact hc2 i u hu)
        have hm1 : K.length + c.undo.length ≤ maxLen := by unfold maxLen; have := HLEN.out; omega
        have hm2 : (K.length + c.undo.length) * 32 ≤ 140737488355328 := by have := HLEN.out; omega
        have HF1 := Lib.hid (flatC_len kC_len c.undo)
        have HF2 := Lib.hid (kC_one c.undo)
        have hnw := HNW.out
        go_wp2_with (at_builtin; refine wpList_append_own _ rfl _ _ 27 rfl N 48 i0 _ 4 32 Try.underlying27 hi0 hz0 hz1 hz2 rfl (by omega) (.slice oa K.length ocap) K.length (flatC kC K) rfl HO1.out ta c.undo.length uc (flatC kC c.undo) rfl HF1.out HNEW.out HF2.out hm1 hm2 (by rw [World.size_alloc]; omega) ?_; intro v2 w2 hown2 hgrow2 _)
        have HB2 := Lib.hid (HB1.out.grown hgrow2 (by rw [World.size_alloc]; omega) (fun z hz => ((owns_shape HO1.out).choose_spec.choose_spec.2 z hz).1))
        have HO2 := Lib.hid hown2
        clear hown2 hgrow2
        go_wp2_with fail
        go_roundw
        case rel => exact ⟨j + 1, by omega, by go_num, HB2, Lib.hid (by rw [HT.out, flatC_append, List.length_append]; exact HO2.out)⟩
        case measure => simp [intOf]; omega
    · obtain rfl : j = l.length := by omega
      rw [List.take_of_length_le (Nat.le_refl _)] at HO
      obtain ⟨oa, ocap, rfl, _⟩ := owns_shape HO.out
      have HRO := Lib.hid ((Row.of_owns HO.out).mono (S' := anyB) (fun _ _ => trivial) (fun _ _ _ _ h => h))
      go_wp2_with fail
      refine (sortK_any anyB (keysL l) _ wr HKL.out HRO.out).mono ?_
      rintro e w2 ⟨v2, rfl, ho2, hb2⟩
      have HB2 := Lib.hid (HB.out.trans (hb2.mono HNW.out))
      have HMEM := Lib.hid (show ∀ k ∈ sortS ltKb (keysL l), 0 < jointN l [k] from fun k hk => (mem_keysL l k).1 ((mem_sortS ltKb (keysL l) k).1 hk))
      have HSL := Lib.hid (show (sortS ltKb (keysL l)).length ≤ 4000 by have := sortS_le ltKb (keysL l); have := HKL.out; omega)
      have HDEF := Lib.hid (show refDeg l = shF l (sortS ltKb (keysL l)) from rfl)
      have HRS := Lib.hid ((Row.of_owns ho2).mono (S' := anyB) (fun _ _ => trivial) (fun _ _ _ _ h => h))
      obtain ⟨sa, scap, rfl, _⟩ := owns_shape ho2
      have HN2 := Lib.hid (Nat.le_trans HNW.out (Nat.le_trans (Nat.le_refl _) hb2.size))
      clear ho2 hb2 hi0 hz0 hz1 hz2 i0
      generalize sortS ltKb (keysL l) = s at *
      obtain ⟨i0, hi0, hz0, hz1, hz2⟩ := info_parts info127
      have hsl := HSL.out
      obtain ⟨M, HM⟩ : ∃ M, Hid (M = w2.heap.size) := ⟨_, Lib.hid rfl⟩
      have HMN := Lib.hid (show N ≤ M by rw [HM.out]; exact HN2.out)
      go_wp2_with fail
      go_loopw [6, 28] (fun v i wx => ∃ j : Nat, j ≤ s.length ∧ i = .int .i64 j ∧ Hid (Below M w2 wx) ∧ Hid (wx.ownsRow M 127 5 v (shF l (s.take j)).length (flatC tC (shF l (s.take j))))) (fun _ i _ => s.length - (intOf i).toNat)
      case atStart => exact ⟨0, Nat.zero_le _, rfl, Lib.hid (Below.refl _ _), Lib.hid (World.ownsRow_nil _ _ _ _)⟩
      case round =>
        obtain ⟨j, hj, rfl, HBx, HOx⟩ := hrel
        clear HB HBW HNW HO HRO
        have HMW := Lib.hid (show M ≤ wr.heap.size by rw [HM.out]; exact HBx.out.size)
        have HBM := Lib.hid (show Below w2.heap.size w2 wr by rw [← HM.out]; exact HBx.out)
        by_cases hlt : j < s.length
        · obtain ⟨b, off, rfl, _, hcg⟩ := HRS.out.atC kC_len hlt
          have g0 := below_cell HBM.out (hcg 0 (.int .u8 s[j].kind) rfl)
          have g1 := below_cell HBM.out (hcg 1 (.int .i64 s[j].a) rfl)
          have g2 := below_cell HBM.out (hcg 2 (.int .i64 s[j].b) rfl)
          have g3 := below_cell HBM.out (hcg 3 (.int .i64 s[j].n) rfl)
          rw [Nat.add_zero] at g0
          clear hcg
          have HT := Lib.hid (shF_take l s j hlt)
          have HPX := Lib.hid (HMEM.out _ (List.getElem_mem hlt))
          have HLO := Lib.hid (show (shF l (s.take j)).length ≤ 4000 by rw [shF_len, List.length_take]; omega)
          have HPO := Lib.hid (show ∀ y ∈ shF l (s.take j), 0 < y.2 from fun y hy => by
            obtain ⟨h1, h2⟩ := (shF_mem l _ y).1 hy
            rw [h2]; exact HMEM.out _ (List.mem_of_mem_take h1))
          generalize s[j] = x at *
          generalize shF l (s.take j) = O at *
          have hlo : O.length ≤ 4000 := HLO.out
          have hbg := cell_lt g0
          have HJN := Lib.hid (jointN_le HOK.out [x])
          have HJ := Lib.hid (show ∀ W (B : Nat), Below N w W → W.heap[B]? = some (.cells #[.int .u8 x.kind, .int .i64 x.a, .int .i64 x.b, .int .i64 x.n] 48) → Calls Try.prog 29 #[.slice a l.length cap, .slice (some ⟨B, 0, none⟩) 1 1] W fun e w' => e = .returned (.int .i64 (jointN l [x])) ∧ More W w' from fun W B hW hB =>
            joint29_any l [x] _ _ W hl (by simp) HOK.out (HR.out.below (by rw [← HN.out]; exact hW)) (row_blkC (l := [x]) kC_len hB rfl (Nat.le_refl _) trivial))
          generalize jointN l [x] = n at *
          go_upto_region 11 with (fail)
          have HLX := Lib.hid (alloc_last wr (.cells #[.int .u8 x.kind, .int .i64 x.a, .int .i64 x.b, .int .i64 x.n] 48))
          have HMO := Lib.hid (Lay.alloc wr (.cells #[.int .u8 x.kind, .int .i64 x.a, .int .i64 x.b, .int .i64 x.n] 48)).1
          have HO1 := Lib.hid (owns_keep HOx.out (fun z hz => HMO.out.block ((owns_shape HOx.out).choose_spec.choose_spec.2 z hz).2))
          have HB1 := Lib.hid (HBx.out.trans (HMO.out.below.mono HMW.out))
          have HM1 := Lib.hid (Nat.le_trans HMW.out HMO.out.size)
          clear g0 g1 g2 g3 hbg
          generalize wr.alloc (.cells #[.int .u8 x.kind, .int .i64 x.a, .int .i64 x.b, .int .i64 x.n] 48) = w3 at *
          generalize wr.heap.size = KB at *
          go_cut [9] (fun sx wx => ∃ XB, sx = .pointer (some ⟨XB, 0, none⟩) ∧ Hid (More w3 wx) ∧ Hid (w3.heap.size ≤ XB) ∧ Hid (wx.heap[XB]? = some (.cells #[.int .u8 x.kind, .int .i64 x.a, .int .i64 x.b, .int .i64 x.n, .int .i64 n] 127)))
          case first =>
            have HK := Lib.hid (show ∀ W, More w3 W → W.cell? ⟨KB, 0, none⟩ = some (.int .u8 x.kind) ∧ W.cell? ⟨KB, 1, none⟩ = some (.int .i64 x.a) ∧ W.cell? ⟨KB, 2, none⟩ = some (.int .i64 x.b) ∧ W.cell? ⟨KB, 3, none⟩ = some (.int .i64 x.n) from fun W h => ⟨h.cell (cell_of_blk HLX.out rfl), h.cell (cell_of_blk HLX.out rfl), h.cell (cell_of_blk HLX.out rfl), h.cell (cell_of_blk HLX.out rfl)⟩)
            have HL := Lib.hid (more_drew w3)
            have HBN := Lib.hid (HB2.out.trans (HB1.out.mono HMN.out))
            have HNW3 := Lib.hid (show N ≤ w3.heap.size by have := HMN.out; have := HM1.out; omega)
            refine wp_region_inv0 (fun iA il ia W => ∃ (b0 b1 b2 b3 b4 b5 b6 b7 : Bool) (x32 x33 x34 x35 x36 x37 x9 : Value), il = #[b0, b1, b2, b3, b4, b5, b6, b7] ∧ ia = (((((((iA.put (some 32) x32).put (some 33) x33).put (some 34) x34).put (some 35) x35).put (some 36) x36).put (some 37) x37).put (some 9) x9) ∧ InvD w3 KB x n (.slice a l.length cap) b0 b1 b2 b3 b4 b5 b6 b7 x32 x33 x34 x35 x36 x37 x9 W) (by kernel_rfl) (by kernel_rfl) ?size ?start ⟨?op0, ?op1, ?op2, ?op3, ?op4, ?op5, ?op6, ?op7, trivial⟩ ?last
            case size =>
              intro _ _ _ h
              obtain ⟨b0, b1, b2, b3, b4, b5, b6, b7, x32, x33, x34, x35, x36, x37, x9, rfl, rfl, _⟩ := h
              rfl
            case start =>
              exact ⟨false, false, false, false, false, false, false, false, _, _, _, _, _, _, _, rfl, (put_back (put_back (put_back (put_back (put_back (put_back (put_back rfl))))))), ⟨HL, by simp, by simp, by simp, by simp, by simp, by simp, by simp, by simp, by simp⟩⟩
            case op0 =>
              refine InvOp.pass rfl fun il ia W h hl hd K hK0 => ?_
              obtain ⟨b0, b1, b2, b3, b4, b5, b6, b7, x32, x33, x34, x35, x36, x37, x9, rfl, rfl, hJ⟩ := h
              have hb : b0 = false := hl
              subst hb
              clear hl
              have hK := fun (x32' x33' x34' x35' x36' x37' x9' : Value) (W' : World) h => hK0 _ W' ⟨true, b1, b2, b3, b4, b5, b6, b7, x32', x33', x34', x35', x36', x37', x9', rfl, rfl, h⟩
              clear hK0 hd
              simp only [Act.put, List.setIfInBounds_toArray, List.set_cons_succ, List.set_cons_zero] at hK ⊢
              obtain ⟨k0, k1, k2, k3⟩ := HK.out _ hJ.hl.out
              go_simp
              exact hK _ _ _ _ _ _ _ _ { hJ with g0 := fun _ => rfl }
            case op1 =>
              refine InvOp.pass rfl fun il ia W h hl hd K hK0 => ?_
              obtain ⟨b0, b1, b2, b3, b4, b5, b6, b7, x32, x33, x34, x35, x36, x37, x9, rfl, rfl, hJ⟩ := h
              have hb : b1 = false := hl
              subst hb
              clear hl
              have hK := fun (x32' x33' x34' x35' x36' x37' x9' : Value) (W' : World) h => hK0 _ W' ⟨b0, true, b2, b3, b4, b5, b6, b7, x32', x33', x34', x35', x36', x37', x9', rfl, rfl, h⟩
              clear hK0 hd
              simp only [Act.put, List.setIfInBounds_toArray, List.set_cons_succ, List.set_cons_zero] at hK ⊢
              go_simp
              exact hK _ _ _ _ _ _ _ _ { hJ with g1 := fun _ => rfl }
            case op2 =>
              refine InvOp.pass rfl fun il ia W h hl hd K hK0 => ?_
              obtain ⟨b0, b1, b2, b3, b4, b5, b6, b7, x32, x33, x34, x35, x36, x37, x9, rfl, rfl, hJ⟩ := h
              have hb : b2 = false := hl
              subst hb
              clear hl
              have hK := fun (x32' x33' x34' x35' x36' x37' x9' : Value) (W' : World) h => hK0 _ W' ⟨b0, b1, true, b3, b4, b5, b6, b7, x32', x33', x34', x35', x36', x37', x9', rfl, rfl, h⟩
              clear hK0 hd
              simp only [Act.put, List.setIfInBounds_toArray, List.set_cons_succ, List.set_cons_zero] at hK ⊢
              obtain ⟨k0, k1, k2, k3⟩ := HK.out _ hJ.hl.out
              go_simp
              exact hK _ _ _ _ _ _ _ _ { hJ with g2 := fun _ => rfl }
            case op3 =>
              refine InvOp.pass rfl fun il ia W h hl hd K hK0 => ?_
              obtain ⟨b0, b1, b2, b3, b4, b5, b6, b7, x32, x33, x34, x35, x36, x37, x9, rfl, rfl, hJ⟩ := h
              have hb : b3 = false := hl
              subst hb
              clear hl
              have hb : b2 = true := hd _ (.head _) rfl
              subst hb
              have hK := fun (x32' x33' x34' x35' x36' x37' x9' : Value) (W' : World) h => hK0 _ W' ⟨b0, b1, true, true, b4, b5, b6, b7, x32', x33', x34', x35', x36', x37', x9', rfl, rfl, h⟩
              clear hK0 hd
              simp only [Act.put, List.setIfInBounds_toArray, List.set_cons_succ, List.set_cons_zero] at hK ⊢
              obtain rfl := hJ.g2 rfl
              obtain rfl : b4 = false := by cases b4 with
                | false => rfl
                | true => exact absurd (hJ.d4 rfl) (by simp)
              go_simp
              exact hK _ _ _ _ _ _ _ _ { hJ with g3 := fun _ _ => ⟨W.heap.size, rfl, alloc_last _ _⟩, d4 := fun _ => rfl, hl := Lib.hid (more_trans hJ.hl.out (Lay.alloc W _).1), g6 := fun hb => (hJ.g6 hb).keepM (Lay.alloc W _).1 }
            case op4 =>
              refine InvOp.pass rfl fun il ia W h hl hd K hK0 => ?_
              obtain ⟨b0, b1, b2, b3, b4, b5, b6, b7, x32, x33, x34, x35, x36, x37, x9, rfl, rfl, hJ⟩ := h
              have hb : b4 = false := hl
              subst hb
              clear hl
              have hb : b1 = true := hd _ (.head _) rfl
              subst hb
              have hb : b3 = true := hd _ (.tail _ (.head _)) rfl
              subst hb
              have hK := fun (x32' x33' x34' x35' x36' x37' x9' : Value) (W' : World) h => hK0 _ W' ⟨b0, true, b2, true, true, b5, b6, b7, x32', x33', x34', x35', x36', x37', x9', rfl, rfl, h⟩
              clear hK0 hd
              simp only [Act.put, List.setIfInBounds_toArray, List.set_cons_succ, List.set_cons_zero] at hK ⊢
              obtain rfl := hJ.g1 rfl
              obtain ⟨B, rfl, hB⟩ := hJ.g3 rfl rfl
              go_simp
              go_at_call 29
              refine (HJ.out W B (HBN.out.trans (hJ.hl.out.below.mono HNW3.out)) hB).mono ?_
              rintro e w6 ⟨rfl, hm6⟩
              go_simp
              exact hK _ _ _ _ _ _ _ _ { hJ with g3 := fun _ h => absurd h (by simp), d4 := fun _ => rfl, d7 := fun h => ⟨(hJ.d7 h).1, rfl⟩, hl := Lib.hid (more_trans hJ.hl.out hm6), g6 := fun hb => (hJ.g6 hb).keepM hm6, g4 := fun _ => rfl }
            case op5 =>
              refine InvOp.pass rfl fun il ia W h hl hd K hK0 => ?_
              obtain ⟨b0, b1, b2, b3, b4, b5, b6, b7, x32, x33, x34, x35, x36, x37, x9, rfl, rfl, hJ⟩ := h
              have hb : b5 = false := hl
              subst hb
              clear hl
              have hb : b0 = true := hd _ (.head _) rfl
              subst hb
              have hb : b4 = true := hd _ (.tail _ (.head _)) rfl
              subst hb
              have hK := fun (x32' x33' x34' x35' x36' x37' x9' : Value) (W' : World) h => hK0 _ W' ⟨true, b1, b2, b3, true, true, b6, b7, x32', x33', x34', x35', x36', x37', x9', rfl, rfl, h⟩
              clear hK0 hd
              simp only [Act.put, List.setIfInBounds_toArray, List.set_cons_succ, List.set_cons_zero] at hK ⊢
              obtain rfl := hJ.g0 rfl
              obtain rfl := hJ.g4 rfl
              go_simp
              exact hK _ _ _ _ _ _ _ _ { hJ with g5 := fun _ => rfl }
            case op6 =>
              refine InvOp.pass rfl fun il ia W h hl hd K hK0 => ?_
              obtain ⟨b0, b1, b2, b3, b4, b5, b6, b7, x32, x33, x34, x35, x36, x37, x9, rfl, rfl, hJ⟩ := h
              have hb : b6 = false := hl
              subst hb
              clear hl
              have hK := fun (x32' x33' x34' x35' x36' x37' x9' : Value) (W' : World) h => hK0 _ W' ⟨b0, b1, b2, b3, b4, b5, true, b7, x32', x33', x34', x35', x36', x37', x9', rfl, rfl, h⟩
              clear hK0 hd
              simp only [Act.put, List.setIfInBounds_toArray, List.set_cons_succ, List.set_cons_zero] at hK ⊢
              obtain rfl : b7 = false := by cases b7 with
                | false => rfl
                | true => exact absurd (hJ.d7 rfl) (by simp)
              have hsz := hJ.hl.out.size
              go_simp
              exact hK _ _ _ _ _ _ _ _ { hJ with g3 := fun h h' => (by obtain ⟨B, e, hB⟩ := hJ.g3 h h'; exact ⟨B, e, ((Lay.alloc W _).1.block (blk_lt hB)).trans hB⟩), d7 := fun h => (by cases h), g6 := fun _ => Box.start (W := W) (base := w3.heap.size) 127 _ _ hsz, hl := Lib.hid (more_trans hJ.hl.out (Lay.alloc W _).1) }
            case op7 =>
              refine InvOp.pass rfl fun il ia W h hl hd K hK0 => ?_
              obtain ⟨b0, b1, b2, b3, b4, b5, b6, b7, x32, x33, x34, x35, x36, x37, x9, rfl, rfl, hJ⟩ := h
              have hb : b7 = false := hl
              subst hb
              clear hl
              have hb : b6 = true := hd _ (.head _) rfl
              subst hb
              have hb : b5 = true := hd _ (.tail _ (.head _)) rfl
              subst hb
              have hb : b4 = true := hd _ (.tail _ (.tail _ (.head _))) rfl
              subst hb
              have hb : b0 = true := hd _ (.tail _ (.tail _ (.tail _ (.head _)))) rfl
              subst hb
              have hb : b1 = true := hd _ (.tail _ (.tail _ (.tail _ (.tail _ (.head _))))) rfl
              subst hb
              have hb : b2 = true := hd _ (.tail _ (.tail _ (.tail _ (.tail _ (.tail _ (.head _)))))) rfl
              subst hb
              have hb : b3 = true := hd _ (.tail _ (.tail _ (.tail _ (.tail _ (.tail _ (.tail _ (.head _))))))) rfl
              subst hb
              have hK := fun (x32' x33' x34' x35' x36' x37' x9' : Value) (W' : World) h => hK0 _ W' ⟨true, true, true, true, true, true, true, true, x32', x33', x34', x35', x36', x37', x9', rfl, rfl, h⟩
              clear hK0 hd
              simp only [Act.put, List.setIfInBounds_toArray, List.set_cons_succ, List.set_cons_zero] at hK ⊢
              obtain rfl := hJ.g5 rfl
              obtain ⟨B, rfl, hB, hblk⟩ := hJ.g6 rfl
              have c0 := cell_of_blk (j := 0) hblk rfl
              have c1 := cell_of_blk (j := 1) hblk rfl
              have c2 := cell_of_blk (j := 2) hblk rfl
              have c3 := cell_of_blk (j := 3) hblk rfl
              have c4 := cell_of_blk (j := 4) hblk rfl
              have f0 := thaw hblk 0
              have f1 := thaw hblk 1
              have f2 := thaw hblk 2
              have f3 := thaw hblk 3
              have f4 := thaw hblk 4
              go_simp
              exact hK _ _ _ _ _ _ _ _ { hJ with hl := Lib.hid (moreSetC hJ.hl.out (B := B) (o := 0) hB [.int .u8 x.kind, .int .i64 x.a, .int .i64 x.b, .int .i64 x.n, .int .i64 n]), g3 := fun _ h => absurd h (by simp), d7 := fun _ => ⟨rfl, rfl⟩, g6 := fun _ => ⟨B, rfl, hB, by rw [setCell_heap (setCell_heap (setCell_heap (setCell_heap (setCell_heap hblk))))]; rfl⟩ }
            case last =>
              intro il ia W h hall
              obtain ⟨b0, b1, b2, b3, b4, b5, b6, b7, x32, x33, x34, x35, x36, x37, x9, rfl, rfl, hJ⟩ := h
              simp only [Act.put, List.setIfInBounds_toArray, List.set_cons_succ, List.set_cons_zero]
              have hb : b0 = true := hall 0 (Nat.le_of_ble_eq_true rfl)
              subst hb
              have hb : b1 = true := hall 1 (Nat.le_of_ble_eq_true rfl)
              subst hb
              have hb : b2 = true := hall 2 (Nat.le_of_ble_eq_true rfl)
              subst hb
              have hb : b3 = true := hall 3 (Nat.le_of_ble_eq_true rfl)
              subst hb
              have hb : b4 = true := hall 4 (Nat.le_of_ble_eq_true rfl)
              subst hb
              have hb : b5 = true := hall 5 (Nat.le_of_ble_eq_true rfl)
              subst hb
              have hb : b6 = true := hall 6 (Nat.le_of_ble_eq_true rfl)
              subst hb
              have hb : b7 = true := hall 7 (Nat.le_of_ble_eq_true rfl)
              subst hb
              clear hall
              obtain ⟨XB, rfl, hXB, hblk⟩ := hJ.g6 rfl
              go_wp2_with fail
              go_meet
              exact ⟨XB, rfl, hJ.hl, Lib.hid hXB, Lib.hid hblk⟩
          case rest =>
            obtain ⟨XB, rfl, HLc, HXB, HXc⟩ := hcut
            have HOc := Lib.hid (owns_keep HO1.out (fun z hz => HLc.out.block ((owns_shape HO1.out).choose_spec.choose_spec.2 z hz).2))
            have HBc := Lib.hid (HB1.out.trans (HLc.out.below.mono HM1.out))
            have HMc := Lib.hid (Nat.le_trans HM1.out HLc.out.size)
            have HXL := Lib.hid (blk_lt HXc.out)
            clear HO1 HB1 HM1 HLX HLc HXB HBx HOx HMW HBM HMO
            obtain ⟨oa, ocap, rfl, _⟩ := owns_shape HOc.out
            obtain ⟨M2, HM2⟩ : ∃ M2, Hid (M2 = wc.heap.size) := ⟨_, Lib.hid rfl⟩
            have HXM := Lib.hid (show XB < M2 by rw [HM2.out]; exact HXL.out)
            have HMM := Lib.hid (show M ≤ M2 by rw [HM2.out]; exact HMc.out)
            obtain ⟨wo, rfl⟩ : ∃ wo : World, wo = wr := ⟨_, rfl⟩
            go_wp2_with fail
            go_loopw [10, 11, 40] (fun nx dn i wx => ∃ (k : Nat) (m : List (K4 × Nat)) (d : Bool), k ≤ O.length ∧ i = .int .i64 k ∧ dn = .bool d ∧ Hid ((O.take k).foldl (stT (x, n)) ([], false) = (m, d)) ∧ Hid (Below M2 wc wx) ∧ Hid (wx.ownsRow M2 127 5 nx m.length (flatC tC m))) (fun _ _ i _ => O.length - (intOf i).toNat)
            case atStart => exact ⟨0, [], false, Nat.zero_le _, rfl, rfl, Lib.hid rfl, Lib.hid (Below.refl _ _), Lib.hid (World.ownsRow_nil _ _ _ _)⟩
            case round =>
              obtain ⟨k, m, d, hk, rfl, rfl, HF, HBy, HOy⟩ := hrel
              have HLN := Lib.hid (show m.length ≤ 2 * k by have := stT_le (x, n) (O.take k) ([], false); rw [HF.out] at this; simp [List.length_take] at this; omega)
              have HMW := Lib.hid (show M2 ≤ wr.heap.size by rw [HM2.out]; exact HBy.out.size)
              have HX2 := Lib.hid ((HBy.out.block XB HXM.out).trans HXc.out)
              have HM12 := Lib.hid (show m.length + 1 + 1 ≤ maxLen ∧ (m.length + 1 + 1) * 40 ≤ 140737488355328 from ⟨by unfold maxLen; have := HLN.out; omega, by have := HLN.out; omega⟩)
              have hm1 : m.length + 1 ≤ maxLen := by unfold maxLen; have := HLN.out; omega
              have hm2 : (m.length + 1) * 40 ≤ 140737488355328 := by have := HLN.out; omega
              obtain ⟨na, ncap, rfl, hno⟩ := owns_shape HOy.out
              have HNO := Lib.hid hno
              clear hno
              by_cases hkl : k < O.length
              · obtain ⟨b2, off2, rfl, _, hcg⟩ := (Row.of_owns HOc.out).atC tC_len hkl
                have HBM2 := Lib.hid (show Below wc.heap.size wc wr by rw [← HM2.out]; exact HBy.out)
                have g0 := below_cell HBM2.out (hcg 0 (.int .u8 O[k].1.kind) rfl)
                have g1 := below_cell HBM2.out (hcg 1 (.int .i64 O[k].1.a) rfl)
                have g2 := below_cell HBM2.out (hcg 2 (.int .i64 O[k].1.b) rfl)
                have g3 := below_cell HBM2.out (hcg 3 (.int .i64 O[k].1.n) rfl)
                have g4 := below_cell HBM2.out (hcg 4 (.int .i64 O[k].2) rfl)
                rw [Nat.add_zero] at g0
                clear hcg
                have HST := Lib.hid (show (O.take (k + 1)).foldl (stT (x, n)) ([], false) = stT (x, n) (m, d) O[k] by rw [List.take_succ_eq_append_getElem hkl, List.foldl_append, HF.out]; rfl)
                have HYP := Lib.hid (HPO.out _ (List.getElem_mem hkl))
                generalize O[k] = y at *
                have hbg := cell_lt g0
                have x0 : wr.cell? ⟨XB, 0, none⟩ = some (.int .u8 x.kind) := cell_of_blk HX2.out rfl
                have x1 : wr.cell? ⟨XB, 1, none⟩ = some (.int .i64 x.a) := cell_of_blk HX2.out rfl
                have x2 : wr.cell? ⟨XB, 2, none⟩ = some (.int .i64 x.b) := cell_of_blk HX2.out rfl
                have x3 : wr.cell? ⟨XB, 3, none⟩ = some (.int .i64 x.n) := cell_of_blk HX2.out rfl
                have x4 : wr.cell? ⟨XB, 4, none⟩ = some (.int .i64 n) := cell_of_blk HX2.out rfl
                have hxb := cell_lt x0
                have HLS := Lib.hid (fun W => lessK_ref x y.1 W)
                obtain ⟨r, HRR⟩ : ∃ r, Hid (ltKb x y.1 = r) := ⟨_, Lib.hid rfl⟩
                rw [HRR.out] at HLS
                go_upto_region 17 with (fail)
                have HY := Lib.hid (alloc_last wr (.cells #[.int .u8 y.1.kind, .int .i64 y.1.a, .int .i64 y.1.b, .int .i64 y.1.n, .int .i64 y.2] 127))
                have HX := Lib.hid ((Below.heap_alloc wr (.cells #[.int .u8 y.1.kind, .int .i64 y.1.a, .int .i64 y.1.b, .int .i64 y.1.n, .int .i64 y.2] 127) _ hxb).trans HX2.out)
                have HB1 := Lib.hid (HBy.out.alloc HMW.out (.cells #[.int .u8 y.1.kind, .int .i64 y.1.a, .int .i64 y.1.b, .int .i64 y.1.n, .int .i64 y.2] 127))
                have HO1 := Lib.hid (owns_keep HOy.out (fun z hz => Below.heap_alloc wr (.cells #[.int .u8 y.1.kind, .int .i64 y.1.a, .int .i64 y.1.b, .int .i64 y.1.n, .int .i64 y.2] 127) _ (HNO.out z hz).2))
                have HM1 := Lib.hid (show M2 ≤ (wr.alloc (.cells #[.int .u8 y.1.kind, .int .i64 y.1.a, .int .i64 y.1.b, .int .i64 y.1.n, .int .i64 y.2] 127)).heap.size by rw [World.size_alloc]; have := HMW.out; omega)
                clear g0 g1 g2 g3 g4 x0 x1 x2 x3 x4 hbg hxb
                generalize wr.alloc (.cells #[.int .u8 y.1.kind, .int .i64 y.1.a, .int .i64 y.1.b, .int .i64 y.1.n, .int .i64 y.2] 127) = w1 at *
                generalize wr.heap.size = YB at *
                have x0 : w1.cell? ⟨XB, 0, none⟩ = some (.int .u8 x.kind) := cell_of_blk HX.out rfl
                have x1 : w1.cell? ⟨XB, 1, none⟩ = some (.int .i64 x.a) := cell_of_blk HX.out rfl
                have x2 : w1.cell? ⟨XB, 2, none⟩ = some (.int .i64 x.b) := cell_of_blk HX.out rfl
                have x3 : w1.cell? ⟨XB, 3, none⟩ = some (.int .i64 x.n) := cell_of_blk HX.out rfl
                have x4 : w1.cell? ⟨XB, 4, none⟩ = some (.int .i64 n) := cell_of_blk HX.out rfl
                have y0 : w1.cell? ⟨YB, 0, none⟩ = some (.int .u8 y.1.kind) := cell_of_blk HY.out rfl
                have y1 : w1.cell? ⟨YB, 1, none⟩ = some (.int .i64 y.1.a) := cell_of_blk HY.out rfl
                have y2 : w1.cell? ⟨YB, 2, none⟩ = some (.int .i64 y.1.b) := cell_of_blk HY.out rfl
                have y3 : w1.cell? ⟨YB, 3, none⟩ = some (.int .i64 y.1.n) := cell_of_blk HY.out rfl
                have y4 : w1.cell? ⟨YB, 4, none⟩ = some (.int .i64 y.2) := cell_of_blk HY.out rfl
                have hx := cell_lt x0
                have hy := cell_lt y0
                have hM1 := HM1.out
                cases d with
                | true =>
                  go_wp2_with (at_builtin; refine wpList_append_own _ rfl _ _ 40 rfl M2 127 i0 _ 5 40 Try.underlying40 hi0 hz0 hz1 hz2 rfl (by omega) _ _ _ rfl (owns_keep HO1.out (fun z hz => Below.heap_alloc w1 _ _ ((owns_shape (HO1.out)).choose_spec.choose_spec.2 z hz).2)) ⟨w1.heap.size, 0, none⟩ 1 1 [.int .u8 y.1.kind, .int .i64 y.1.a, .int .i64 y.1.b, .int .i64 y.1.n, .int .i64 y.2] rfl rfl (World.news_of_block (cs := #[.int .u8 y.1.kind, .int .i64 y.1.a, .int .i64 y.1.b, .int .i64 y.1.n, .int .i64 y.2]) (t := 127) (fr := (0, 0)) (alloc_last _ _)) (by simp [Value.oneCell']) hm1 hm2 (by rw [World.size_alloc]; omega) ?_; intro v6 w6 hown6 hgrow6 _)
                  have HB6 := Lib.hid ((HB1.out.alloc hM1 _).grown hgrow6 (by rw [World.size_alloc]; omega) (fun z hz => ((owns_shape HO1.out).choose_spec.choose_spec.2 z hz).1))
                  have HO6 := Lib.hid hown6
                  clear hown6 hgrow6 x0 x1 x2 x3 x4 y0 y1 y2 y3 y4
                  go_wp2_with fail
                  go_roundw
                  case rel => exact ⟨k + 1, m ++ [y], true, by omega, by go_num, rfl, Lib.hid (by rw [HST.out]; unfold stT; rw [if_neg (by simp)]), HB6, Lib.hid (by rw [flatC_push, List.length_append]; exact HO6.out)⟩
                  case measure => simp [intOf]; omega
                | false =>
                  by_cases hlt1 : n < y.2
                  · have t1 : decide ((n : Int) < (y.2 : Int)) = true := by simp; omega
                    have HLT := Lib.hid (show ltT (x, n) y from Or.inl ⟨HPX.out, Or.inr hlt1⟩)
                    go_upto_region 19 with (at_builtin; refine wpList_append_own _ rfl _ _ 40 rfl M2 127 i0 _ 5 40 Try.underlying40 hi0 hz0 hz1 hz2 rfl (by omega) _ _ _ rfl (owns_keep HO1.out (fun z hz => Below.heap_alloc w1 _ _ ((owns_shape (HO1.out)).choose_spec.choose_spec.2 z hz).2)) ⟨w1.heap.size, 0, none⟩ 1 1 [.int .u8 x.kind, .int .i64 x.a, .int .i64 x.b, .int .i64 x.n, .int .i64 n] rfl rfl (World.news_of_block (cs := #[.int .u8 x.kind, .int .i64 x.a, .int .i64 x.b, .int .i64 x.n, .int .i64 n]) (t := 127) (fr := (0, 0)) (alloc_last _ _)) (by simp [Value.oneCell']) hm1 hm2 (by rw [World.size_alloc]; omega) ?_; intro v6 w6 hown6 hgrow6 _)
                    have HB6 := Lib.hid ((HB1.out.alloc hM1 _).grown hgrow6 (by rw [World.size_alloc]; omega) (fun z hz => ((owns_shape HO1.out).choose_spec.choose_spec.2 z hz).1))
                    have HO6 := Lib.hid hown6
                    have HY6 := Lib.hid ((hgrow6.block YB (by rw [World.size_alloc]; omega) (fun e => by have := (HNO.out YB e.symm).2; omega)).trans ((Below.heap_alloc w1 _ _ hy).trans HY.out))
                    have HM6 := Lib.hid (show M2 ≤ w6.heap.size by rw [HM2.out]; exact HB6.out.size)
                    clear hm1 hm2
                    have hm1 := HM12.out.1
                    have hm2 := HM12.out.2
                    clear hown6 hgrow6 x0 x1 x2 x3 x4 y0 y1 y2 y3 y4 hx hy
                    have y0 : w6.cell? ⟨YB, 0, none⟩ = some (.int .u8 y.1.kind) := cell_of_blk HY6.out rfl
                    have y1 : w6.cell? ⟨YB, 1, none⟩ = some (.int .i64 y.1.a) := cell_of_blk HY6.out rfl
                    have y2 : w6.cell? ⟨YB, 2, none⟩ = some (.int .i64 y.1.b) := cell_of_blk HY6.out rfl
                    have y3 : w6.cell? ⟨YB, 3, none⟩ = some (.int .i64 y.1.n) := cell_of_blk HY6.out rfl
                    have y4 : w6.cell? ⟨YB, 4, none⟩ = some (.int .i64 y.2) := cell_of_blk HY6.out rfl
                    have hy := cell_lt y0
                    have hM6 := HM6.out
                    go_wp2_with (at_builtin; refine wpList_append_own _ rfl _ _ 40 rfl M2 127 i0 _ 5 40 Try.underlying40 hi0 hz0 hz1 hz2 rfl (by omega) _ _ _ rfl (owns_keep HO6.out (fun z hz => Below.heap_alloc w6 _ _ ((owns_shape (HO6.out)).choose_spec.choose_spec.2 z hz).2)) ⟨w6.heap.size, 0, none⟩ 1 1 [.int .u8 y.1.kind, .int .i64 y.1.a, .int .i64 y.1.b, .int .i64 y.1.n, .int .i64 y.2] rfl rfl (World.news_of_block (cs := #[.int .u8 y.1.kind, .int .i64 y.1.a, .int .i64 y.1.b, .int .i64 y.1.n, .int .i64 y.2]) (t := 127) (fr := (0, 0)) (alloc_last _ _)) (by simp [Value.oneCell']) hm1 hm2 (by rw [World.size_alloc]; omega) ?_; intro v7 w7 hown7 hgrow7 _)
                    have HB7 := Lib.hid ((HB6.out.alloc hM6 _).grown hgrow7 (by rw [World.size_alloc]; omega) (fun z hz => ((owns_shape HO6.out).choose_spec.choose_spec.2 z hz).1))
                    have HO7 := Lib.hid hown7
                    clear hown7 hgrow7 y0 y1 y2 y3 y4
                    go_wp2_with fail
                    go_roundw
                    case rel => exact ⟨k + 1, m ++ [(x, n), y], true, by omega, by go_num, rfl, Lib.hid (by rw [HST.out]; unfold stT; rw [if_pos ⟨rfl, HLT.out⟩]), HB7, Lib.hid (by rw [show m ++ [(x, n), y] = m ++ [(x, n)] ++ [y] by simp, flatC_push, flatC_push, List.length_append, List.length_append]; exact HO7.out)⟩
                    case measure => simp [intOf]; omega
                  · by_cases heq : n = y.2
                    · have t1 : decide ((n : Int) < (y.2 : Int)) = false := by simp; omega
                      have t2 : ((n : Int) == (y.2 : Int)) = true := by simp [heq]
                      have HE := Lib.hid heq
                      have HLT := Lib.hid (show ltT (x, n) y ↔ ltK x y.1 from ⟨fun h => h.elim (fun h => by unfold ltN at h; have := HYP.out; simp only at h; omega) (fun h => h.2), fun h => Or.inr ⟨HE.out, h⟩⟩)
                      have hq1 : n ≤ y.2 := by omega
                      have hq2 : y.2 ≤ n := by omega
                      clear heq hlt1
                      go_wp2_with fail
                      refine (HLS.out _).mono ?_
                      rintro e w2 ⟨rfl, hl2⟩
                      have HB2' := Lib.hid (HB1.out.trans (hl2.1.below.mono HM1.out))
                      have HO2 := Lib.hid (owns_keep HO1.out (fun z hz => hl2.1.block ((owns_shape HO1.out).choose_spec.choose_spec.2 z hz).2))
                      have HM3 := Lib.hid (Nat.le_trans HM1.out hl2.1.size)
                      have HX3 := Lib.hid ((hl2.1.block hx).trans HX.out)
                      have HY3 := Lib.hid ((hl2.1.block hy).trans HY.out)
                      clear hl2 x0 x1 x2 x3 x4 y0 y1 y2 y3 y4 hx hy
                      have x0 : w2.cell? ⟨XB, 0, none⟩ = some (.int .u8 x.kind) := cell_of_blk HX3.out rfl
                      have x1 : w2.cell? ⟨XB, 1, none⟩ = some (.int .i64 x.a) := cell_of_blk HX3.out rfl
                      have x2 : w2.cell? ⟨XB, 2, none⟩ = some (.int .i64 x.b) := cell_of_blk HX3.out rfl
                      have x3 : w2.cell? ⟨XB, 3, none⟩ = some (.int .i64 x.n) := cell_of_blk HX3.out rfl
                      have x4 : w2.cell? ⟨XB, 4, none⟩ = some (.int .i64 n) := cell_of_blk HX3.out rfl
                      have y0 : w2.cell? ⟨YB, 0, none⟩ = some (.int .u8 y.1.kind) := cell_of_blk HY3.out rfl
                      have y1 : w2.cell? ⟨YB, 1, none⟩ = some (.int .i64 y.1.a) := cell_of_blk HY3.out rfl
                      have y2 : w2.cell? ⟨YB, 2, none⟩ = some (.int .i64 y.1.b) := cell_of_blk HY3.out rfl
                      have y3 : w2.cell? ⟨YB, 3, none⟩ = some (.int .i64 y.1.n) := cell_of_blk HY3.out rfl
                      have y4 : w2.cell? ⟨YB, 4, none⟩ = some (.int .i64 y.2) := cell_of_blk HY3.out rfl
                      have hx := cell_lt x0
                      have hy := cell_lt y0
                      have hM1 := HM3.out
                      cases r with
                      | false =>
                        have HNL := Lib.hid (show ¬ ltT (x, n) y from fun h => by have := HRR.out; rw [(ltKb_iff _ _).2 (HLT.out.1 h)] at this; cases this)
                        go_wp2_with (at_builtin; refine wpList_append_own _ rfl _ _ 40 rfl M2 127 i0 _ 5 40 Try.underlying40 hi0 hz0 hz1 hz2 rfl (by omega) _ _ _ rfl (owns_keep HO2.out (fun z hz => Below.heap_alloc w2 _ _ ((owns_shape (HO2.out)).choose_spec.choose_spec.2 z hz).2)) ⟨w2.heap.size, 0, none⟩ 1 1 [.int .u8 y.1.kind, .int .i64 y.1.a, .int .i64 y.1.b, .int .i64 y.1.n, .int .i64 y.2] rfl rfl (World.news_of_block (cs := #[.int .u8 y.1.kind, .int .i64 y.1.a, .int .i64 y.1.b, .int .i64 y.1.n, .int .i64 y.2]) (t := 127) (fr := (0, 0)) (alloc_last _ _)) (by simp [Value.oneCell']) hm1 hm2 (by rw [World.size_alloc]; omega) ?_; intro v6 w6 hown6 hgrow6 _)
                        have HB6 := Lib.hid ((HB2'.out.alloc hM1 _).grown hgrow6 (by rw [World.size_alloc]; omega) (fun z hz => ((owns_shape HO2.out).choose_spec.choose_spec.2 z hz).1))
                        have HO6 := Lib.hid hown6
                        clear hown6 hgrow6 x0 x1 x2 x3 x4 y0 y1 y2 y3 y4
                        go_wp2_with fail
                        go_roundw
                        case rel => exact ⟨k + 1, m ++ [y], false, by omega, by go_num, rfl, Lib.hid (by rw [HST.out]; unfold stT; rw [if_neg (by rintro ⟨_, h⟩; exact HNL.out h)]), HB6, Lib.hid (by rw [flatC_push, List.length_append]; exact HO6.out)⟩
                        case measure => simp [intOf]; omega
                      | true =>
                        have HLT := Lib.hid (HLT.out.2 ((ltKb_iff _ _).1 HRR.out))
                        go_upto_region 19 with (at_builtin; refine wpList_append_own _ rfl _ _ 40 rfl M2 127 i0 _ 5 40 Try.underlying40 hi0 hz0 hz1 hz2 rfl (by omega) _ _ _ rfl (owns_keep HO2.out (fun z hz => Below.heap_alloc w2 _ _ ((owns_shape (HO2.out)).choose_spec.choose_spec.2 z hz).2)) ⟨w2.heap.size, 0, none⟩ 1 1 [.int .u8 x.kind, .int .i64 x.a, .int .i64 x.b, .int .i64 x.n, .int .i64 n] rfl rfl (World.news_of_block (cs := #[.int .u8 x.kind, .int .i64 x.a, .int .i64 x.b, .int .i64 x.n, .int .i64 n]) (t := 127) (fr := (0, 0)) (alloc_last _ _)) (by simp [Value.oneCell']) hm1 hm2 (by rw [World.size_alloc]; omega) ?_; intro v6 w6 hown6 hgrow6 _)
                        have HB6 := Lib.hid ((HB2'.out.alloc hM1 _).grown hgrow6 (by rw [World.size_alloc]; omega) (fun z hz => ((owns_shape HO2.out).choose_spec.choose_spec.2 z hz).1))
                        have HO6 := Lib.hid hown6
                        have HY6 := Lib.hid ((hgrow6.block YB (by rw [World.size_alloc]; omega) (fun e => by have := (HNO.out YB e.symm).2; omega)).trans ((Below.heap_alloc w2 _ _ hy).trans HY3.out))
                        have HM6 := Lib.hid (show M2 ≤ w6.heap.size by rw [HM2.out]; exact HB6.out.size)
                        clear hm1 hm2
                        have hm1 := HM12.out.1
                        have hm2 := HM12.out.2
                        clear hown6 hgrow6 x0 x1 x2 x3 x4 y0 y1 y2 y3 y4 hx hy
                        have y0 : w6.cell? ⟨YB, 0, none⟩ = some (.int .u8 y.1.kind) := cell_of_blk HY6.out rfl
                        have y1 : w6.cell? ⟨YB, 1, none⟩ = some (.int .i64 y.1.a) := cell_of_blk HY6.out rfl
                        have y2 : w6.cell? ⟨YB, 2, none⟩ = some (.int .i64 y.1.b) := cell_of_blk HY6.out rfl
                        have y3 : w6.cell? ⟨YB, 3, none⟩ = some (.int .i64 y.1.n) := cell_of_blk HY6.out rfl
                        have y4 : w6.cell? ⟨YB, 4, none⟩ = some (.int .i64 y.2) := cell_of_blk HY6.out rfl
                        have hy := cell_lt y0
                        have hM6 := HM6.out
                        go_wp2_with (at_builtin; refine wpList_append_own _ rfl _ _ 40 rfl M2 127 i0 _ 5 40 Try.underlying40 hi0 hz0 hz1 hz2 rfl (by omega) _ _ _ rfl (owns_keep HO6.out (fun z hz => Below.heap_alloc w6 _ _ ((owns_shape (HO6.out)).choose_spec.choose_spec.2 z hz).2)) ⟨w6.heap.size, 0, none⟩ 1 1 [.int .u8 y.1.kind, .int .i64 y.1.a, .int .i64 y.1.b, .int .i64 y.1.n, .int .i64 y.2] rfl rfl (World.news_of_block (cs := #[.int .u8 y.1.kind, .int .i64 y.1.a, .int .i64 y.1.b, .int .i64 y.1.n, .int .i64 y.2]) (t := 127) (fr := (0, 0)) (alloc_last _ _)) (by simp [Value.oneCell']) hm1 hm2 (by rw [World.size_alloc]; omega) ?_; intro v7 w7 hown7 hgrow7 _)
                        have HB7 := Lib.hid ((HB6.out.alloc hM6 _).grown hgrow7 (by rw [World.size_alloc]; omega) (fun z hz => ((owns_shape HO6.out).choose_spec.choose_spec.2 z hz).1))
                        have HO7 := Lib.hid hown7
                        clear hown7 hgrow7 y0 y1 y2 y3 y4
                        go_wp2_with fail
                        go_roundw
                        case rel => exact ⟨k + 1, m ++ [(x, n), y], true, by omega, by go_num, rfl, Lib.hid (by rw [HST.out]; unfold stT; rw [if_pos ⟨rfl, HLT.out⟩]), HB7, Lib.hid (by rw [show m ++ [(x, n), y] = m ++ [(x, n)] ++ [y] by simp, flatC_push, flatC_push, List.length_append, List.length_append]; exact HO7.out)⟩
                        case measure => simp [intOf]; omega
                    · have t1 : decide ((n : Int) < (y.2 : Int)) = false := by simp; omega
                      have t2 : ((n : Int) == (y.2 : Int)) = false := by rw [beq_eq_false_iff_ne]; omega
                      have hgt : y.2 < n := by omega
                      have HNL := Lib.hid (show ¬ ltT (x, n) y from fun h => h.elim (fun h => by unfold ltN at h; have := HYP.out; simp only at h; omega) (fun h => heq h.1))
                      go_wp2_with (at_builtin; refine wpList_append_own _ rfl _ _ 40 rfl M2 127 i0 _ 5 40 Try.underlying40 hi0 hz0 hz1 hz2 rfl (by omega) _ _ _ rfl (owns_keep HO1.out (fun z hz => Below.heap_alloc w1 _ _ ((owns_shape (HO1.out)).choose_spec.choose_spec.2 z hz).2)) ⟨w1.heap.size, 0, none⟩ 1 1 [.int .u8 y.1.kind, .int .i64 y.1.a, .int .i64 y.1.b, .int .i64 y.1.n, .int .i64 y.2] rfl rfl (World.news_of_block (cs := #[.int .u8 y.1.kind, .int .i64 y.1.a, .int .i64 y.1.b, .int .i64 y.1.n, .int .i64 y.2]) (t := 127) (fr := (0, 0)) (alloc_last _ _)) (by simp [Value.oneCell']) hm1 hm2 (by rw [World.size_alloc]; omega) ?_; intro v6 w6 hown6 hgrow6 _)
                      have HB6 := Lib.hid ((HB1.out.alloc hM1 _).grown hgrow6 (by rw [World.size_alloc]; omega) (fun z hz => ((owns_shape HO1.out).choose_spec.choose_spec.2 z hz).1))
                      have HO6 := Lib.hid hown6
                      clear hown6 hgrow6 x0 x1 x2 x3 x4 y0 y1 y2 y3 y4
                      go_wp2_with fail
                      go_roundw
                      case rel => exact ⟨k + 1, m ++ [y], false, by omega, by go_num, rfl, Lib.hid (by rw [HST.out]; unfold stT; rw [if_neg (by rintro ⟨_, h⟩; exact HNL.out h)]), HB6, Lib.hid (by rw [flatC_push, List.length_append]; exact HO6.out)⟩
                      case measure => simp [intOf]; omega
              · obtain rfl : k = O.length := by omega
                have HEND := Lib.hid (stT_ins (x, n) O [])
                rw [List.take_of_length_le (Nat.le_refl _)] at HF
                rw [HF.out] at HEND
                have HBE := Lib.hid (HBc.out.trans (HBy.out.mono HMM.out))
                cases d with
                | true =>
                  go_wp2_with fail
                  go_roundw
                  case rel =>
                    refine ⟨j + 1, by omega, by go_num, HBE, Lib.hid ?_⟩
                    have e : m = insT (x, n) O := by simpa using HEND.out
                    rw [HT.out, ← e]
                    exact owns_base HOy.out HMM.out
                  case measure => simp [intOf]; omega
                | false =>
                  have x0 : wr.cell? ⟨XB, 0, none⟩ = some (.int .u8 x.kind) := cell_of_blk HX2.out rfl
                  have x1 : wr.cell? ⟨XB, 1, none⟩ = some (.int .i64 x.a) := cell_of_blk HX2.out rfl
                  have x2 : wr.cell? ⟨XB, 2, none⟩ = some (.int .i64 x.b) := cell_of_blk HX2.out rfl
                  have x3 : wr.cell? ⟨XB, 3, none⟩ = some (.int .i64 x.n) := cell_of_blk HX2.out rfl
                  have x4 : wr.cell? ⟨XB, 4, none⟩ = some (.int .i64 n) := cell_of_blk HX2.out rfl
                  have hx := cell_lt x0
                  have hMW := HMW.out
                  go_wp2_with (at_builtin; refine wpList_append_own _ rfl _ _ 40 rfl M2 127 i0 _ 5 40 Try.underlying40 hi0 hz0 hz1 hz2 rfl (by omega) _ _ _ rfl (owns_keep HOy.out (fun z hz => Below.heap_alloc wr _ _ ((owns_shape (HOy.out)).choose_spec.choose_spec.2 z hz).2)) ⟨wr.heap.size, 0, none⟩ 1 1 [.int .u8 x.kind, .int .i64 x.a, .int .i64 x.b, .int .i64 x.n, .int .i64 n] rfl rfl (World.news_of_block (cs := #[.int .u8 x.kind, .int .i64 x.a, .int .i64 x.b, .int .i64 x.n, .int .i64 n]) (t := 127) (fr := (0, 0)) (alloc_last _ _)) (by simp [Value.oneCell']) hm1 hm2 (by rw [World.size_alloc]; omega) ?_; intro v6 w6 hown6 hgrow6 _)
                  have HB6 := Lib.hid ((HBy.out.alloc hMW _).grown hgrow6 (by rw [World.size_alloc]; omega) (fun z hz => ((owns_shape HOy.out).choose_spec.choose_spec.2 z hz).1))
                  have HO6 := Lib.hid hown6
                  clear hown6 hgrow6 x0 x1 x2 x3 x4
                  go_wp2_with fail
                  go_roundw
                  case rel =>
                    refine ⟨j + 1, by omega, by go_num, Lib.hid (HBc.out.trans (HB6.out.mono HMM.out)), Lib.hid ?_⟩
                    have e : m ++ [(x, n)] = insT (x, n) O := by simpa using HEND.out
                    rw [HT.out, ← e, flatC_push, List.length_append]
                    exact owns_base HO6.out HMM.out
                  case measure => simp [intOf]; omega
        · obtain rfl : j = s.length := by omega
          rw [List.take_of_length_le (Nat.le_refl _)] at HOx
          go_wp2_with fail
          go_ret
          exact ⟨_, rfl, by rw [HDEF.out]; exact owns_base HOx.out HMN.out, HB2.out.trans (HBx.out.mono HMN.out)⟩
end Go.Proofs.Ytemeppfikpafbaa
