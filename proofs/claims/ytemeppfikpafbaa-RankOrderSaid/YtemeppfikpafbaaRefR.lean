/- The reference: contains (73), Size (24), Joint (29); the law's degree (23). -/
import Derived.Test.YtemeppfikpafbaaSortK
namespace Go.Proofs.Ytemeppfikpafbaa
open Go.RowKit
theorem fst_two {w : World} {o : Obj} {b i : Nat} {v : Value} (h : w.cell? ⟨b, i, none⟩ = some v) : (w.alloc o).cell? ⟨b, i, none⟩ = some v := alloc_cell o h
set_option maxRecDepth 100000 in
set_option maxHeartbeats 1000000 in
theorem contains_any (l : List K4) (k : K4) (v u : Value) (w : World) (hl : l.length ≤ 4000) (h : Row anyB w 4 l.length v (flatC kC l)) :
    Calls Try.prog 73 #[.agg #[v, u], kA k] w fun e w' => e = .returned (.bool (decide (k ∈ l))) ∧ More w w' := by
  obtain ⟨a, cap, rfl, _⟩ := h.shape
  have HR := Lib.hid h; clear h
  unfold kA
  go_enter Try.func73, Try.ntmps73
  go_wp2_with fail
  obtain ⟨h1, h2, hm⟩ := boxed2 w (.cells #[.slice a l.length cap, u] 36) (.cells #[.int .u8 k.kind, .int .i64 k.a, .int .i64 k.b, .int .i64 k.n] 48)
  generalize (w.alloc (.cells #[.slice a l.length cap, u] 36)).alloc (.cells #[.int .u8 k.kind, .int .i64 k.a, .int .i64 k.b, .int .i64 k.n] 48) = w2 at *
  have HM := Lib.hid hm.1
  have c0 : w2.cell? ⟨w.heap.size, 0, none⟩ = some (.slice a l.length cap) := cell_of_blk h1 rfl
  obtain ⟨KB, HKB⟩ : ∃ KB, Hid (KB = w.heap.size + 1) := ⟨_, Lib.hid rfl⟩
  have H2 := Lib.hid (show w2.heap[KB]? = some (.cells #[.int .u8 k.kind, .int .i64 k.a, .int .i64 k.b, .int .i64 k.n] 48) by rw [HKB.out]; exact h2)
  rw [← HKB.out]
  have hcb := cell_lt c0
  clear h1 h2 hm
  go_wp2_with fail
  go_loopw [10] (fun i wr => ∃ j : Nat, j ≤ l.length ∧ i = .int .i64 j ∧ Hid (More w wr) ∧ Hid (k ∉ l.take j) ∧ Hid (wr.heap[KB]? = some (.cells #[.int .u8 k.kind, .int .i64 k.a, .int .i64 k.b, .int .i64 k.n] 48))) (fun i _ => l.length - (intOf i).toNat)
  case atStart => exact ⟨0, Nat.zero_le _, rfl, HM, Lib.hid (by simp), H2⟩
  case round =>
    obtain ⟨j, hj, rfl, HMr, HN, HK⟩ := hrel
    clear c0 hcb
    by_cases hlt : j < l.length
    · obtain ⟨b, off, rfl, _, hc⟩ := HR.out.atC kC_len hlt
      have g0 := HMr.out.cell (hc 0 (.int .u8 l[j].kind) rfl)
      have g1 := HMr.out.cell (hc 1 (.int .i64 l[j].a) rfl)
      have g2 := HMr.out.cell (hc 2 (.int .i64 l[j].b) rfl)
      have g3 := HMr.out.cell (hc 3 (.int .i64 l[j].n) rfl)
      rw [Nat.add_zero] at g0
      clear hc
      have HT := Lib.hid (show l.take (j + 1) = l.take j ++ [l[j]] from List.take_succ_eq_append_getElem hlt)
      have HMEM := Lib.hid (List.getElem_mem hlt)
      generalize l[j] = x at *
      have hbg := cell_lt g0
      have k0 : wr.cell? ⟨KB, 0, none⟩ = some (.int .u8 k.kind) := cell_of_blk HK.out rfl
      have k1 : wr.cell? ⟨KB, 1, none⟩ = some (.int .i64 k.a) := cell_of_blk HK.out rfl
      have k2 : wr.cell? ⟨KB, 2, none⟩ = some (.int .i64 k.b) := cell_of_blk HK.out rfl
      have k3 : wr.cell? ⟨KB, 3, none⟩ = some (.int .i64 k.n) := cell_of_blk HK.out rfl
      have hkb := cell_lt k0
      have heq := fun W => run_eqK x k W
      have HM1 := Lib.hid (more_trans HMr.out (Lay.alloc wr (.cells #[.int .u8 x.kind, .int .i64 x.a, .int .i64 x.b, .int .i64 x.n] 48)).1)
      have HK1 := Lib.hid ((Below.heap_alloc wr (.cells #[.int .u8 x.kind, .int .i64 x.a, .int .i64 x.b, .int .i64 x.n] 48) _ hkb).trans HK.out)
      by_cases hx : x = k
      · have HX := Lib.hid hx
        rw [decide_eq_true hx] at heq
        have HD := Lib.hid (show decide (k ∈ l) = true by rw [decide_eq_true_iff, ← hx]; exact HMEM.out)
        clear hx
        go_wp2_with fail
        go_ret
        exact ⟨by rw [HD.out]; rfl, HM1.out⟩
      · have HX := Lib.hid hx
        rw [decide_eq_false hx] at heq
        clear hx
        go_wp2_with fail
        go_roundw
        case rel =>
          refine ⟨j + 1, by omega, by go_num, HM1, Lib.hid ?_, HK1⟩
          rw [HT.out, List.mem_append]
          rintro (h | h)
          · exact HN.out h
          · exact HX.out (List.mem_singleton.1 h).symm
        case measure => simp [intOf]; omega
    · obtain rfl : j = l.length := by omega
      rw [List.take_of_length_le (Nat.le_refl _)] at HN
      go_wp2_with fail
      go_ret
      exact ⟨by rw [decide_eq_false HN.out]; rfl, HMr.out⟩
theorem sortK_len (l : List K4) : (sortS ltKb l).length = (nd l).length := sortS_len ltKb_iff ltK_irrefl (fun _ _ _ => ltK_trans) (fun _ _ => ltK_tri) l
theorem sortM_len (l : List M3) : (sortS ltMb l).length = (nd l).length := sortS_len ltMb_iff ltM_irrefl (fun _ _ _ => ltM_trans) (fun _ _ => ltM_tri) l
set_option maxRecDepth 100000 in
set_option maxHeartbeats 1000000 in
theorem size24_any (c : Cau) (vu vh : Value) (w : World) (hok : c.Ok) (hu : Row anyB w 4 c.undo.length vu (flatC kC c.undo)) (hh : Row anyB w 3 c.hold.length vh (flatC mC c.hold)) :
    Calls Try.prog 24 #[.agg #[vu, vh]] w fun e w' => e = .returned (.int .i64 c.size) ∧ More w w' := by
  obtain ⟨ua, uc, rfl, _⟩ := hu.shape
  obtain ⟨ha, hc, rfl, _⟩ := hh.shape
  have HSU := Lib.hid (sortK_len c.undo)
  have HSH := Lib.hid (sortM_len c.hold)
  have HSZ := Lib.hid (show (((nd c.undo).length : Int) + ((nd c.hold).length : Int)) = (c.size : Int) by unfold Cau.size; omega)
  have HLE := Lib.hid (Cau.size_le hok)
  have HU := Lib.hid (fun W (hW : More w W) => sortK_any anyB c.undo _ W (by have := hok.lu; omega) (hu.below hW.below))
  have HH := Lib.hid (fun W (hW : More w W) => sortM_any anyB c.hold _ W (by have := hok.lh; omega) (hh.below hW.below))
  rw [HSU.out] at HU
  rw [HSH.out] at HH
  have HNU := Lib.hid (nd_len c.undo)
  have HNH := Lib.hid (nd_len c.hold)
  have HLU := Lib.hid hok.lu
  have HLH := Lib.hid hok.lh
  clear hu hh hok
  go_enter Try.func24, Try.ntmps24
  go_wp2_with fail
  have HL := Lib.hid (Lay.alloc w (.cells #[.slice ua c.undo.length uc, .slice ha c.hold.length hc] 36)).1
  have HC := Lib.hid (alloc_last w (.cells #[.slice ua c.undo.length uc, .slice ha c.hold.length hc] 36))
  generalize w.alloc (.cells #[.slice ua c.undo.length uc, .slice ha c.hold.length hc] 36) = w1 at *
  have HK := Lib.hid (show ∀ W, More w1 W → W.cell? ⟨w.heap.size, 0, none⟩ = some (.slice ua c.undo.length uc) ∧ W.cell? ⟨w.heap.size, 1, none⟩ = some (.slice ha c.hold.length hc) from fun W h => ⟨h.cell (cell_of_blk HC.out rfl), h.cell (cell_of_blk HC.out rfl)⟩)
  have HM := Lib.hid (more_drew w1)
  obtain ⟨k0, k1⟩ := HK.out _ HM.out
  have hsum := HSZ.out
  have hb1 : ((nd c.undo).length : Int) ≤ 400 := by have := HNU.out; have := HLU.out; omega
  have hb2 : ((nd c.hold).length : Int) ≤ 400 := by have := HNH.out; have := HLH.out; omega
  go_region_held3 (fun W => W.cell? ⟨w.heap.size, 0, none⟩ = some (.slice ua c.undo.length uc) ∧ W.cell? ⟨w.heap.size, 1, none⟩ = some (.slice ha c.hold.length hc)) (exact HK.out _ HM.out)
    (first
      | (go_at_call 64; refine (HU.out _ (more_trans HL.out HM.out)).mono ?_; rintro e w3 ⟨v3, rfl, ho3, hb3⟩; have HM := Lib.hid (more_trans HM.out (more_of hb3)); obtain ⟨a3, c3, rfl, _⟩ := owns_shape ho3; clear ho3 hb3)
      | (go_at_call 65; refine (HH.out _ (more_trans HL.out HM.out)).mono ?_; rintro e w3 ⟨v3, rfl, ho3, hb3⟩; have HM := Lib.hid (more_trans HM.out (more_of hb3)); obtain ⟨a3, c3, rfl, _⟩ := owns_shape ho3; clear ho3 hb3))
  all_goals
    go_wp2_with fail
    go_ret
    exact ⟨by rw [show IntKind.i64.wrap (c.size : Int) = (c.size : Int) by rw [IntKind.wrap_i64]; have := HLE.out; omega]; rfl, more_trans HL.out HM.out⟩
set_option maxRecDepth 100000 in
theorem degree23_any (n : Nat) (w : World) (hn : n ≤ 1000000) : Calls Try.prog 23 #[.int .i64 n] w fun e w' => e = .returned (rA (degR n)) ∧ More w w' := by
  have hb := Lay.alloc w (.cells #[.int .i64 0, .int .i64 0] 32)
  have h1 := alloc_last w (.cells #[.int .i64 0, .int .i64 0] 32)
  have k0 : (w.alloc (.cells #[.int .i64 0, .int .i64 0] 32)).cell? ⟨w.heap.size, 0, none⟩ = some (.int .i64 0) := cell_of_blk h1 rfl
  have k1 : (w.alloc (.cells #[.int .i64 0, .int .i64 0] 32)).cell? ⟨w.heap.size, 1, none⟩ = some (.int .i64 0) := cell_of_blk h1 rfl
  by_cases h0 : n = 0
  · subst h0
    rw [show degR 0 = (0, 1) from rfl]
    clear h1 k0 k1
    go_enter Try.func23, Try.ntmps23
    go_wp2_with fail
    have h := alloc_last w (.cells #[.int .i64 0, .int .i64 1] 32)
    have c0 : (w.alloc (.cells #[.int .i64 0, .int .i64 1] 32)).cell? ⟨w.heap.size, 0, none⟩ = some (.int .i64 0) := cell_of_blk h rfl
    have c1 : (w.alloc (.cells #[.int .i64 0, .int .i64 1] 32)).cell? ⟨w.heap.size, 1, none⟩ = some (.int .i64 1) := cell_of_blk h rfl
    exact bodyPost_ret (v := .agg #[.int .i64 0, .int .i64 1]) (by simp [results, Try.results23, go_sem, c0, c1]) rfl ⟨rfl, (Lay.alloc _ _).1⟩
  · rw [show degR n = (1, (n : Int)) by unfold degR; rw [if_neg h0]]
    have t1 : ((n : Int) == 0) = false := by rw [beq_eq_false_iff_ne]; omega
    clear h1 k0 k1 h0
    go_enter Try.func23, Try.ntmps23
    go_wp2_with fail
    have h := alloc_last w (.cells #[.int .i64 1, .int .i64 n] 32)
    have c0 : (w.alloc (.cells #[.int .i64 1, .int .i64 n] 32)).cell? ⟨w.heap.size, 0, none⟩ = some (.int .i64 1) := cell_of_blk h rfl
    have c1 : (w.alloc (.cells #[.int .i64 1, .int .i64 n] 32)).cell? ⟨w.heap.size, 1, none⟩ = some (.int .i64 n) := cell_of_blk h rfl
    exact bodyPost_ret (v := .agg #[.int .i64 1, .int .i64 n]) (by simp [results, Try.results23, go_sem, c0, c1]) rfl ⟨rfl, (Lay.alloc _ _).1⟩
end Go.Proofs.Ytemeppfikpafbaa
