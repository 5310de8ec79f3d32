/- law17.Set (92), (choice.Set).Keys (93), on choices of all kinds. -/
import Derived.Test.YtemeppfikpafbaaNewG
namespace Go.Proofs.Ytemeppfikpafbaa
open Go.RowKit Go.Sort Go.Shelf
/-- A set of choices in memory. -/
structure SetAt (S : Nat → Prop) (w : World) (v : Value) (l : List GV) : Prop where
  row : Row S w 7 l.length v (flatC gC l)
  arg : ∀ p ∈ l, GArg S w p
  ok : ∀ p ∈ l, CgOk p.2
  asc : AscG l
  len : l.length ≤ 96
theorem SetAt.mono {S S' : Nat → Prop} {w w' : World} {v : Value} {l : List GV} (h : SetAt S w v l) (hS : ∀ b, S b → b < w.heap.size → S' b) (hw : ∀ b, S b → b < w.heap.size → w'.heap[b]? = w.heap[b]?) : SetAt S' w' v l :=
  ⟨(h.row.lt (by omega)).mono (fun b hb => hS b hb.1 hb.2) (fun b off x hb hc => by
    rw [← hc]; exact World.cell?_of_block (w := w) (a := ⟨b, off, none⟩) (hw b hb.1 hb.2)), fun p hp => (h.arg p hp).mono hS hw, h.ok, h.asc, h.len⟩
theorem SetAt.more {S : Nat → Prop} {w w' : World} {v : Value} {l : List GV} (h : SetAt S w v l) (hm : More w w') : SetAt S w' v l := h.mono (fun _ hb _ => hb) (fun _ _ hl => hm.block hl)
theorem SetAt.any {S : Nat → Prop} {w : World} {v : Value} {l : List GV} (h : SetAt S w v l) : SetAt anyB w v l := h.mono (fun _ _ _ => trivial) (fun _ _ _ => rfl)
theorem CgOk.args {x : Cg} (h : CgOk x) : x.l.length ≤ 4 := by have h1 := h.l; split at h1 <;> omega
set_option maxRecDepth 100000 in
set_option maxHeartbeats 4000000 in
theorem set92_gen (l : List GV) (v : Value) (w : World) (hs : SetAt anyB w v l) :
    Calls Try.prog 92 #[v] w fun e w' => (∃ v' l', e = .returned (.tuple #[.agg #[v'], .bool true]) ∧ SetAt (fun b => w.heap.size ≤ b) w' v' l' ∧ l'.map (·.2) = l.map (·.2)) ∧ Below w.heap.size w w' := by
  obtain ⟨a, cap, rfl, _⟩ := hs.row.shape
  have HC := Lib.hid (fun W (hW : More w W) => new86_gen l _ W hs.len (hs.row.below hW.below) (fun p hp => ⟨(hs.arg p hp).more hW, (hs.ok p hp).args⟩) hs.ok hs.asc)
  have HS := Lib.hid hs; clear hs
  have HRB := Lib.hid (alloc_last w (.cells #[.slice none 0 0] 73))
  have HM1 := Lib.hid (more_alloc w (.cells #[.slice none 0 0] 73))
  go_enter Try.func92, Try.ntmps92
  go_upto_region 1 with (fail)
  generalize w.alloc (.cells #[.slice none 0 0] 73) = w1 at *
  obtain ⟨RB, HRE⟩ : ∃ RB, Hid (RB = w.heap.size) := ⟨_, Lib.hid rfl⟩
  rw [← HRE.out] at HRB ⊢
  go_wp2_with fail
  refine (HC.out _ HM1.out).mono ?_
  rintro e w2 ⟨⟨v', l', rfl, hrow, he, harg⟩, hb⟩
  obtain ⟨va, vc, rfl, _⟩ := hrow.shape
  have HROW := Lib.hid hrow; clear hrow
  have HE := Lib.hid he; clear he
  have HARG := Lib.hid harg; clear harg
  have HM2 := Lib.hid (more_trans HM1.out (more_of hb))
  have HRB2 := Lib.hid (((more_of hb).block (blk_lt HRB.out)).trans HRB.out)
  clear hb
  have HS2 := Lib.hid (show SetAt (fun b => w1.heap.size ≤ b) w2 (.slice va l'.length vc) l' from ⟨HROW.out, HARG.out, fun p hp => by
    have h1 : p.2 ∈ l'.map (·.2) := List.mem_map.2 ⟨p, hp, rfl⟩
    rw [HE.out] at h1
    obtain ⟨q, hq, e⟩ := List.mem_map.1 h1
    rw [← e]; exact HS.out.ok q hq, HS.out.asc.same HE.out, by have h1 := congrArg List.length HE.out; simp only [List.length_map] at h1; rw [h1]; exact HS.out.len⟩)
  generalize hln : l'.length = ln at *
  have HLN := Lib.hid hln; clear hln
  have HM3 := Lib.hid (more_alloc w2 (.cells #[.slice va ln vc] 73))
  have HRB3 := Lib.hid ((HM3.out.block (blk_lt HRB2.out)).trans HRB2.out)
  have HPB := Lib.hid (alloc_last w2 (.cells #[.slice va ln vc] 73))
  go_upto_region 2 with (fail)
  generalize w2.alloc (.cells #[.slice va ln vc] 73) = w3 at *
  generalize w2.heap.size = PB at *
  have c0 : w3.cell? ⟨PB, 0, none⟩ = some (.slice va ln vc) := cell_of_blk HPB.out rfl
  have z0 : w3.cell? ⟨RB, 0, none⟩ = some (.slice none 0 0) := cell_of_blk HRB3.out rfl
  have f0 := thaw HRB3.out 0
  have hbc := cell_lt c0
  have hbz := cell_lt z0
  go_wp2_with fail
  have HMF := Lib.hid (show Below w.heap.size w (w3.setCell ⟨RB, 0, none⟩ (.slice va ln vc)) from ((more_trans HM2.out HM3.out).below).setCell (p := ⟨RB, 0, none⟩) (by show w.heap.size ≤ RB; rw [HRE.out]; exact Nat.le_refl _) _)
  have k0 : (w3.setCell ⟨RB, 0, none⟩ (.slice va ln vc)).cell? ⟨RB, 0, none⟩ = some (.slice va ln vc) := setCell_eq z0
  refine bodyPost_ret (v := .tuple #[.agg #[.slice va ln vc], .bool true]) (by simp [results, Try.results92, go_sem, k0]) rfl ⟨⟨_, l', rfl, ?_, HE.out⟩, HMF.out⟩
  exact (HS2.out.more HM3.out).mono (fun b hb _ => Nat.le_trans HM1.out.size hb) (fun b hb _ => Below.heap_setCell _ _ _ _ (show b ≠ RB from by have h1 : w1.heap.size ≤ b := hb; have h2 := blk_lt HRB.out; omega))
theorem infoK : (Try.prog.info? 48).map (fun i => (i.zero, i.size, i.bytes)) = some (some (.agg #[.int .u8 0, .int .i64 0, .int .i64 0, .int .i64 0]), 4, 32) := by kernel_rfl
theorem run_make27 (n : Nat) (hn : n < 4294967296) (w : World) :
    (Instr.makeSlice 27 (.int .i64 0) (.int .i64 (n : Int))).run Try.prog w = .ok (.slice (some ⟨w.heap.size, 0, none⟩) 0 n) (w.alloc (.cells (madeCells #[.int .u8 0, .int .i64 0, .int .i64 0, .int .i64 0] (n * 4)) 48)) := by
  obtain ⟨i, hi, hzz⟩ := Option.map_eq_some_iff.1 infoK
  simp only [Prod.mk.injEq] at hzz
  obtain ⟨hz, hs, hb⟩ := hzz
  have hr := run_make (P := Try.prog) w 27 48 i _ Try.underlying27 hi hz .i64 .i64 0 n (by omega) (by omega) (by rw [hb]; omega) (by omega)
  simpa [Int.toNat_natCast, hs, Value.cells] using hr
theorem room32 {n : Nat} (h : n ≤ 1003) : n ≤ maxLen ∧ n * 32 ≤ 140737488355328 := by unfold maxLen; omega
def keysG (l : List GV) : List K4 := l.map (·.2.k)
set_option maxRecDepth 100000 in
set_option maxHeartbeats 4000000 in
theorem keys93_gen (l : List GV) (v : Value) (w : World) (hs : SetAt anyB w v l) :
    Calls Try.prog 93 #[.agg #[v]] w fun e w' => (∃ v', e = .returned v' ∧ w'.ownsRow w.heap.size 48 4 v' (keysG l).length (flatC kC (keysG l))) ∧ Below w.heap.size w w' := by
  obtain ⟨a, cap, rfl, _⟩ := hs.row.shape
  have HS := Lib.hid hs; clear hs
  obtain ⟨i0, hi0, hz0, hz1, hz2⟩ := info_parts infoK
  have HLN := Lib.hid HS.out.len
  obtain ⟨ln, HLE⟩ : ∃ ln, Hid (l.length = ln) := ⟨_, Lib.hid rfl⟩
  rw [HLE.out] at HLN ⊢
  have hmk := run_make27 ln (by have := HLN.out; omega)
  have HSB := Lib.hid (alloc_last w (.cells #[.slice a ln cap] 73))
  have HM1 := Lib.hid (more_alloc w (.cells #[.slice a ln cap] 73))
  obtain ⟨N, HN⟩ : ∃ N, Hid (N = w.heap.size) := ⟨_, Lib.hid rfl⟩
  rw [← HN.out]
  go_enter Try.func93, Try.ntmps93
  go_upto_region 1 with (fail)
  rw [← HN.out]
  rw [← HN.out] at HSB
  generalize w.alloc (.cells #[.slice a ln cap] 73) = w1 at *
  have c0 : w1.cell? ⟨N, 0, none⟩ = some (.slice a ln cap) := cell_of_blk HSB.out rfl
  have hbc := cell_lt c0
  have HROW := Lib.hid (World.ownsRow_made (base := w1.heap.size) (e := 48) (size := 4) w1 (madeCells #[.int .u8 0, .int .i64 0, .int .i64 0, .int .i64 0] (ln * 4)) ln (Nat.le_refl _) (by have := HLN.out; unfold maxLen; omega) (by simp [madeCells]))
  have HBM := Lib.hid ((Below.refl w1.heap.size w1).alloc (Nat.le_refl _) (.cells (madeCells #[.int .u8 0, .int .i64 0, .int .i64 0, .int .i64 0] (ln * 4)) 48))
  go_upto_region 2 with (fail)
  obtain ⟨M, HMM⟩ : ∃ M, Hid (M = w1.heap.size) := ⟨_, Lib.hid rfl⟩
  rw [← HMM.out] at HROW HBM ⊢
  have HSB2 := Lib.hid ((HBM.out.block N (show N < M by rw [HMM.out]; exact blk_lt HSB.out)).trans HSB.out)
  generalize w1.alloc (.cells (madeCells #[.int .u8 0, .int .i64 0, .int .i64 0, .int .i64 0] (ln * 4)) 48) = w2 at *
  clear c0 hbc
  have c0 : w2.cell? ⟨N, 0, none⟩ = some (.slice a ln cap) := cell_of_blk HSB2.out rfl
  have hbc := cell_lt c0
  go_wp2_with fail
  clear c0 hbc
  go_loopw [3, 13] (fun u i wr => ∃ j : Nat, j ≤ ln ∧ i = .int .i64 j ∧ Hid (Below M w1 wr) ∧ Hid (wr.ownsRow M 48 4 u j (flatC kC (keysG (l.take j))))) (fun _ i _ => ln - (intOf i).toNat)
  case atStart => exact ⟨0, Nat.zero_le _, rfl, HBM, HROW⟩
  case round =>
    obtain ⟨j, hj, rfl, HB, HO⟩ := hrel
    have HMW := Lib.hid (show More w1 wr from more_of (by rw [← HMM.out]; exact HB.out))
    have HMX := Lib.hid (more_trans HM1.out HMW.out)
    have HNW := Lib.hid (show M ≤ wr.heap.size by rw [HMM.out]; exact HMW.out.size)
    obtain ⟨oa, oc, rfl, _⟩ := owns_shape HO.out
    by_cases hlt : j < ln
    · have hjl : j < l.length := by rw [HLE.out]; exact hlt
      have hrw := HS.out.row
      obtain ⟨b, off, rfl, _, hc⟩ := hrw.atC gC_len hjl
      have g0 := HMX.out.cell (hc 0 (.int .u8 l[j].2.k.kind) rfl)
      have g1 := HMX.out.cell (hc 1 (.int .i64 l[j].2.k.a) rfl)
      have g2 := HMX.out.cell (hc 2 (.int .i64 l[j].2.k.b) rfl)
      have g3 := HMX.out.cell (hc 3 (.int .i64 l[j].2.k.n) rfl)
      have g4 := HMX.out.cell (hc 4 (.int .i64 l[j].2.t) rfl)
      have g5 := HMX.out.cell (hc 5 (.int .i64 l[j].2.d) rfl)
      have g6 := HMX.out.cell (hc 6 l[j].1 rfl)
      rw [Nat.add_zero] at g0
      clear hc hrw
      obtain ⟨xa, xc, hxv, _⟩ := (HS.out.arg _ (List.getElem_mem hjl)).row.shape
      rw [hxv] at g6
      clear hxv
      have HT := Lib.hid (show keysG (l.take (j + 1)) = keysG (l.take j) ++ [l[j].2.k] by unfold keysG; rw [List.take_succ_eq_append_getElem hjl, List.map_append]; rfl)
      have HLT := Lib.hid hlt
      generalize l[j] = x at *
      clear hjl
      have hbg := cell_lt g0
      have HMO := Lib.hid (more_alloc wr (.cells #[.int .u8 x.2.k.kind, .int .i64 x.2.k.a, .int .i64 x.2.k.b, .int .i64 x.2.k.n, .int .i64 x.2.t, .int .i64 x.2.d, .slice xa x.2.l.length xc] 113))
      have HXB := Lib.hid (alloc_last wr (.cells #[.int .u8 x.2.k.kind, .int .i64 x.2.k.a, .int .i64 x.2.k.b, .int .i64 x.2.k.n, .int .i64 x.2.t, .int .i64 x.2.d, .slice xa x.2.l.length xc] 113))
      go_upto_region 5 with (fail)
      clear g0 g1 g2 g3 g4 g5 g6 hbg
      generalize wr.alloc (.cells #[.int .u8 x.2.k.kind, .int .i64 x.2.k.a, .int .i64 x.2.k.b, .int .i64 x.2.k.n, .int .i64 x.2.t, .int .i64 x.2.d, .slice xa x.2.l.length xc] 113) = w5 at *
      obtain ⟨XB, HXE⟩ : ∃ XB, Hid (XB = wr.heap.size) := ⟨_, Lib.hid rfl⟩
      rw [← HXE.out] at HXB ⊢
      have c0 : w5.cell? ⟨XB, 0, none⟩ = some (.int .u8 x.2.k.kind) := cell_of_blk HXB.out rfl
      have c1 : w5.cell? ⟨XB, 1, none⟩ = some (.int .i64 x.2.k.a) := cell_of_blk HXB.out rfl
      have c2 : w5.cell? ⟨XB, 2, none⟩ = some (.int .i64 x.2.k.b) := cell_of_blk HXB.out rfl
      have c3 : w5.cell? ⟨XB, 3, none⟩ = some (.int .i64 x.2.k.n) := cell_of_blk HXB.out rfl
      have hbc := cell_lt c0
      have HO5 := Lib.hid (owns_keep HO.out (fun z hz => HMO.out.block (HO.out.lt z hz).2))
      have HS5 := Lib.hid (show M ≤ w5.heap.size from Nat.le_trans HNW.out HMO.out.size)
      have HB5 := Lib.hid (show Below M w1 w5 from HB.out.trans (HMO.out.below.mono HNW.out))
      have hlt9 := HLT.out
      have hln9 := HLN.out
      have HL9 := Lib.hid (room32 (n := j + 1) (by have := HLN.out; omega))
      go_wp2_with (at_builtin; refine wpList_append_own _ rfl _ _ 27 rfl M 48 i0 _ 4 32 Try.underlying27 hi0 hz0 hz1 hz2 rfl (by omega) (.slice oa j oc) j (flatC kC (keysG (l.take j))) rfl (owns_keep HO5.out (fun z hz => Below.heap_alloc w5 _ _ (HO5.out.lt z hz).2)) ⟨w5.heap.size, 0, none⟩ 1 1 [.int .u8 x.2.k.kind, .int .i64 x.2.k.a, .int .i64 x.2.k.b, .int .i64 x.2.k.n] rfl rfl (World.news_of_block (cs := #[.int .u8 x.2.k.kind, .int .i64 x.2.k.a, .int .i64 x.2.k.b, .int .i64 x.2.k.n]) (t := 48) (fr := (0, 0)) (alloc_last _ _)) (by simp [Value.oneCell']) HL9.out.1 HL9.out.2 (by rw [World.size_alloc]; exact Nat.le_succ_of_le HS5.out) ?_; intro v8 w8 hown8 hgrow8 _)
      have HB8 := Lib.hid ((HB5.out.alloc HS5.out _).grown hgrow8 (by rw [World.size_alloc]; exact Nat.le_succ_of_le HS5.out) (fun z hz => (HO5.out.lt z hz).1))
      have HO8 := Lib.hid (show w8.ownsRow M 48 4 v8 (j + 1) (flatC kC (keysG (l.take (j + 1)))) by rw [HT.out, flatC_push]; exact hown8)
      clear hown8 hgrow8 c0 c1 c2 c3 hbc
      go_wp2_with fail
      go_roundw
      case rel => exact ⟨j + 1, by omega, by go_num, HB8, HO8⟩
      case measure => have := HLT.out; simp [intOf]; omega
    · obtain rfl : j = ln := by omega
      rw [List.take_of_length_le (by rw [HLE.out]; exact Nat.le_refl _)] at HO
      have HLK := Lib.hid (show (keysG l).length = j by unfold keysG; rw [List.length_map, HLE.out])
      go_wp2_with fail
      go_ret
      refine ⟨⟨_, rfl, ?_⟩, ?_⟩
      · rw [HLK.out]
        exact owns_base HO.out (by rw [HN.out, HMM.out]; exact HM1.out.size)
      · rw [HN.out]; exact HMX.out.below
end Go.Proofs.Ytemeppfikpafbaa
