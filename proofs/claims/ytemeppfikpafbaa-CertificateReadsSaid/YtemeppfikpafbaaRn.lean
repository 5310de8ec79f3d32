/- Texts SetG, GetG, laid together. -/
import Derived.Deep.RegionHeld3
import Derived.Test.YtemeppfikpafbaaRm
/- law17.Set (92), (choice.Set).Keys (93), on choices of all kinds. -/
namespace Go.Proofs.Ytemeppfikpafbaa
open Go.RowKit Go.Sort Go.Shelf
/-- A set of choices in memory. -/
structure SetAt (S : Nat → Prop) (w : World) (v : Value) (l : List GV) : Prop where
  row : Row S w 7 l.length v (flatC gC l)
  arg : ∀ p ∈ l, GArg S w p
  ok : ∀ p ∈ l, CgOk p.2
  asc : AscG l
  len : l.length ≤ 96
theorem SetAt.mono {S S' : Nat → Prop} {w w' : World} {v : Value} {l : List GV} (h : SetAt S w v l) (hS : ∀ b, S b → b < w.heap.size → S' b) (hw : ∀ b, S b → b < w.heap.size → w'.heap[b]? = w.heap[b]?) : SetAt S' w' v l :=
  ⟨(h.row.lt (by omega)).mono (fun b hb => hS b hb.1 hb.2) (fun b off x hb hc => by
    rw [← hc]; exact World.cell?_of_block (w := w) (a := ⟨b, off, none⟩) (hw b hb.1 hb.2)), fun p hp => (h.arg p hp).mono hS hw, h.ok, h.asc, h.len⟩
theorem SetAt.more {S : Nat → Prop} {w w' : World} {v : Value} {l : List GV} (h : SetAt S w v l) (hm : More w w') : SetAt S w' v l := h.mono (fun _ hb _ => hb) (fun _ _ hl => hm.block hl)
theorem SetAt.any {S : Nat → Prop} {w : World} {v : Value} {l : List GV} (h : SetAt S w v l) : SetAt anyB w v l := h.mono (fun _ _ _ => trivial) (fun _ _ _ => rfl)
theorem CgOk.args {x : Cg} (h : CgOk x) : x.l.length ≤ 4 := by have h1 := h.l; split at h1 <;> omega
set_option maxRecDepth 100000 in
set_option maxHeartbeats 4000000 in
theorem set92_gen (l : List GV) (v : Value) (w : World) (hs : SetAt anyB w v l) :
    Calls Try.prog 92 #[v] w fun e w' => (∃ v' l', e = .returned (.tuple #[.agg #[v'], .bool true]) ∧ SetAt (fun b => w.heap.size ≤ b) w' v' l' ∧ l'.map (·.2) = l.map (·.2)) ∧ Below w.heap.size w w' := by
  obtain ⟨a, cap, rfl, _⟩ := hs.row.shape
  have HC := Lib.hid (fun W (hW : More w W) => new86_gen l _ W hs.len (hs.row.below hW.below) (fun p hp => ⟨(hs.arg p hp).more hW, (hs.ok p hp).args⟩) hs.ok hs.asc)
  have HS := Lib.hid hs; clear hs
  have HRB := Lib.hid (alloc_last w (.cells #[.slice none 0 0] 73))
  have HM1 := Lib.hid (more_alloc w (.cells #[.slice none 0 0] 73))
  go_enter Try.func92, Try.ntmps92
  go_upto_region 1 with (fail)
  generalize w.alloc (.cells #[.slice none 0 0] 73) = w1 at *
  obtain ⟨RB, HRE⟩ : ∃ RB, Hid (RB = w.heap.size) := ⟨_, Lib.hid rfl⟩
  rw [← HRE.out] at HRB ⊢
  go_wp2_with fail
  refine (HC.out _ HM1.out).mono ?_
  rintro e w2 ⟨⟨v', l', rfl, hrow, he, harg⟩, hb⟩
  obtain ⟨va, vc, rfl, _⟩ := hrow.shape
  have HROW := Lib.hid hrow; clear hrow
  have HE := Lib.hid he; clear he
  have HARG := Lib.hid harg; clear harg
  have HM2 := Lib.hid (more_trans HM1.out (more_of hb))
  have HRB2 := Lib.hid (((more_of hb).block (blk_lt HRB.out)).trans HRB.out)
  clear hb
  have HS2 := Lib.hid (show SetAt (fun b => w1.heap.size ≤ b) w2 (.slice va l'.length vc) l' from ⟨HROW.out, HARG.out, fun p hp => by
    have h1 : p.2 ∈ l'.map (·.2) := List.mem_map.2 ⟨p, hp, rfl⟩
    rw [HE.out] at h1
    obtain ⟨q, hq, e⟩ := List.mem_map.1 h1
    rw [← e]; exact HS.out.ok q hq, HS.out.asc.same HE.out, by have h1 := congrArg List.length HE.out; simp only [List.length_map] at h1; rw [h1]; exact HS.out.len⟩)
  generalize hln : l'.length = ln at *
  have HLN := Lib.hid hln; clear hln
  have HM3 := Lib.hid (more_alloc w2 (.cells #[.slice va ln vc] 73))
  have HRB3 := Lib.hid ((HM3.out.block (blk_lt HRB2.out)).trans HRB2.out)
  have HPB := Lib.hid (alloc_last w2 (.cells #[.slice va ln vc] 73))
  go_upto_region 2 with (fail)
  generalize w2.alloc (.cells #[.slice va ln vc] 73) = w3 at *
  generalize w2.heap.size = PB at *
  have c0 : w3.cell? ⟨PB, 0, none⟩ = some (.slice va ln vc) := cell_of_blk HPB.out rfl
  have z0 : w3.cell? ⟨RB, 0, none⟩ = some (.slice none 0 0) := cell_of_blk HRB3.out rfl
  have f0 := thaw HRB3.out 0
  have hbc := cell_lt c0
  have hbz := cell_lt z0
  go_wp2_with fail
  have HMF := Lib.hid (show Below w.heap.size w (w3.setCell ⟨RB, 0, none⟩ (.slice va ln vc)) from ((more_trans HM2.out HM3.out).below).setCell (p := ⟨RB, 0, none⟩) (by show w.heap.size ≤ RB; rw [HRE.out]; exact Nat.le_refl _) _)
  have k0 : (w3.setCell ⟨RB, 0, none⟩ (.slice va ln vc)).cell? ⟨RB, 0, none⟩ = some (.slice va ln vc) := setCell_eq z0
  refine bodyPost_ret (v := .tuple #[.agg #[.slice va ln vc], .bool true]) (by simp [results, Try.results92, go_sem, k0]) rfl ⟨⟨_, l', rfl, ?_, HE.out⟩, HMF.out⟩
  exact (HS2.out.more HM3.out).mono (fun b hb _ => Nat.le_trans HM1.out.size hb) (fun b hb _ => Below.heap_setCell _ _ _ _ (show b ≠ RB from by have h1 : w1.heap.size ≤ b := hb; have h2 := blk_lt HRB.out; omega))
theorem infoK : (Try.prog.info? 48).map (fun i => (i.zero, i.size, i.bytes)) = some (some (.agg #[.int .u8 0, .int .i64 0, .int .i64 0, .int .i64 0]), 4, 32) := by kernel_rfl
theorem run_make27 (n : Nat) (hn : n < 4294967296) (w : World) :
    (Instr.makeSlice 27 (.int .i64 0) (.int .i64 (n : Int))).run Try.prog w = .ok (.slice (some ⟨w.heap.size, 0, none⟩) 0 n) (w.alloc (.cells (madeCells #[.int .u8 0, .int .i64 0, .int .i64 0, .int .i64 0] (n * 4)) 48)) := by
  obtain ⟨i, hi, hzz⟩ := Option.map_eq_some_iff.1 infoK
  simp only [Prod.mk.injEq] at hzz
  obtain ⟨hz, hs, hb⟩ := hzz
  have hr := run_make (P := Try.prog) w 27 48 i _ Try.underlying27 hi hz .i64 .i64 0 n (by omega) (by omega) (by rw [hb]; omega) (by omega)
  simpa [Int.toNat_natCast, hs, Value.cells] using hr
theorem room32 {n : Nat} (h : n ≤ 1003) : n ≤ maxLen ∧ n * 32 ≤ 140737488355328 := by unfold maxLen; omega
def keysG (l : List GV) : List K4 := l.map (·.2.k)
set_option maxRecDepth 100000 in
set_option maxHeartbeats 4000000 in
theorem keys93_gen (l : List GV) (v : Value) (w : World) (hs : SetAt anyB w v l) :
    Calls Try.prog 93 #[.agg #[v]] w fun e w' => (∃ v', e = .returned v' ∧ w'.ownsRow w.heap.size 48 4 v' (keysG l).length (flatC kC (keysG l))) ∧ Below w.heap.size w w' := by
  obtain ⟨a, cap, rfl, _⟩ := hs.row.shape
  have HS := Lib.hid hs; clear hs
  obtain ⟨i0, hi0, hz0, hz1, hz2⟩ := info_parts infoK
  have HLN := Lib.hid HS.out.len
  obtain ⟨ln, HLE⟩ : ∃ ln, Hid (l.length = ln) := ⟨_, Lib.hid rfl⟩
  rw [HLE.out] at HLN ⊢
  have hmk := run_make27 ln (by have := HLN.out; omega)
  have HSB := Lib.hid (alloc_last w (.cells #[.slice a ln cap] 73))
  have HM1 := Lib.hid (more_alloc w (.cells #[.slice a ln cap] 73))
  obtain ⟨N, HN⟩ : ∃ N, Hid (N = w.heap.size) := ⟨_, Lib.hid rfl⟩
  rw [← HN.out]
  go_enter Try.func93, Try.ntmps93
  go_upto_region 1 with (fail)
  rw [← HN.out]
  rw [← HN.out] at HSB
  generalize w.alloc (.cells #[.slice a ln cap] 73) = w1 at *
  have c0 : w1.cell? ⟨N, 0, none⟩ = some (.slice a ln cap) := cell_of_blk HSB.out rfl
  have hbc := cell_lt c0
  have HROW := Lib.hid (World.ownsRow_made (base := w1.heap.size) (e := 48) (size := 4) w1 (madeCells #[.int .u8 0, .int .i64 0, .int .i64 0, .int .i64 0] (ln * 4)) ln (Nat.le_refl _) (by have := HLN.out; unfold maxLen; omega) (by simp [madeCells]))
  have HBM := Lib.hid ((Below.refl w1.heap.size w1).alloc (Nat.le_refl _) (.cells (madeCells #[.int .u8 0, .int .i64 0, .int .i64 0, .int .i64 0] (ln * 4)) 48))
  go_upto_region 2 with (fail)
  obtain ⟨M, HMM⟩ : ∃ M, Hid (M = w1.heap.size) := ⟨_, Lib.hid rfl⟩
  rw [← HMM.out] at HROW HBM ⊢
  have HSB2 := Lib.hid ((HBM.out.block N (show N < M by rw [HMM.out]; exact blk_lt HSB.out)).trans HSB.out)
  generalize w1.alloc (.cells (madeCells #[.int .u8 0, .int .i64 0, .int .i64 0, .int .i64 0] (ln * 4)) 48) = w2 at *
  clear c0 hbc
  have c0 : w2.cell? ⟨N, 0, none⟩ = some (.slice a ln cap) := cell_of_blk HSB2.out rfl
  have hbc := cell_lt c0
  go_wp2_with fail
  clear c0 hbc
  go_loopw [3, 13] (fun u i wr => ∃ j : Nat, j ≤ ln ∧ i = .int .i64 j ∧ Hid (Below M w1 wr) ∧ Hid (wr.ownsRow M 48 4 u j (flatC kC (keysG (l.take j))))) (fun _ i _ => ln - (intOf i).toNat)
  case atStart => exact ⟨0, Nat.zero_le _, rfl, HBM, HROW⟩
  case round =>
    obtain ⟨j, hj, rfl, HB, HO⟩ := hrel
    have HMW := Lib.hid (show More w1 wr from more_of (by rw [← HMM.out]; exact HB.out))
    have HMX := Lib.hid (more_trans HM1.out HMW.out)
    have HNW := Lib.hid (show M ≤ wr.heap.size by rw [HMM.out]; exact HMW.out.size)
    obtain ⟨oa, oc, rfl, _⟩ := owns_shape HO.out
    by_cases hlt : j < ln
    · have hjl : j < l.length := by rw [HLE.out]; exact hlt
      have hrw := HS.out.row
      obtain ⟨b, off, rfl, _, hc⟩ := hrw.atC gC_len hjl
      have g0 := HMX.out.cell (hc 0 (.int .u8 l[j].2.k.kind) rfl)
      have g1 := HMX.out.cell (hc 1 (.int .i64 l[j].2.k.a) rfl)
      have g2 := HMX.out.cell (hc 2 (.int .i64 l[j].2.k.b) rfl)
      have g3 := HMX.out.cell (hc 3 (.int .i64 l[j].2.k.n) rfl)
      have g4 := HMX.out.cell (hc 4 (.int .i64 l[j].2.t) rfl)
      have g5 := HMX.out.cell (hc 5 (.int .i64 l[j].2.d) rfl)
      have g6 := HMX.out.cell (hc 6 l[j].1 rfl)
      rw [Nat.add_zero] at g0
      clear hc hrw
      obtain ⟨xa, xc, hxv, _⟩ := (HS.out.arg _ (List.getElem_mem hjl)).row.shape
      rw [hxv] at g6
      clear hxv
      have HT := Lib.hid (show keysG (l.take (j + 1)) = keysG (l.take j) ++ [l[j].2.k] by unfold keysG; rw [List.take_succ_eq_append_getElem hjl, List.map_append]; rfl)
      have HLT := Lib.hid hlt
      generalize l[j] = x at *
      clear hjl
      have hbg := cell_lt g0
      have HMO := Lib.hid (more_alloc wr (.cells #[.int .u8 x.2.k.kind, .int .i64 x.2.k.a, .int .i64 x.2.k.b, .int .i64 x.2.k.n, .int .i64 x.2.t, .int .i64 x.2.d, .slice xa x.2.l.length xc] 113))
      have HXB := Lib.hid (alloc_last wr (.cells #[.int .u8 x.2.k.kind, .int .i64 x.2.k.a, .int .i64 x.2.k.b, .int .i64 x.2.k.n, .int .i64 x.2.t, .int .i64 x.2.d, .slice xa x.2.l.length xc] 113))
      go_upto_region 5 with (fail)
      clear g0 g1 g2 g3 g4 g5 g6 hbg
      generalize wr.alloc (.cells #[.int .u8 x.2.k.kind, .int .i64 x.2.k.a, .int .i64 x.2.k.b, .int .i64 x.2.k.n, .int .i64 x.2.t, .int .i64 x.2.d, .slice xa x.2.l.length xc] 113) = w5 at *
      obtain ⟨XB, HXE⟩ : ∃ XB, Hid (XB = wr.heap.size) := ⟨_, Lib.hid rfl⟩
      rw [← HXE.out] at HXB ⊢
      have c0 : w5.cell? ⟨XB, 0, none⟩ = some (.int .u8 x.2.k.kind) := cell_of_blk HXB.out rfl
      have c1 : w5.cell? ⟨XB, 1, none⟩ = some (.int .i64 x.2.k.a) := cell_of_blk HXB.out rfl
      have c2 : w5.cell? ⟨XB, 2, none⟩ = some (.int .i64 x.2.k.b) := cell_of_blk HXB.out rfl
      have c3 : w5.cell? ⟨XB, 3, none⟩ = some (.int .i64 x.2.k.n) := cell_of_blk HXB.out rfl
      have hbc := cell_lt c0
      have HO5 := Lib.hid (owns_keep HO.out (fun z hz => HMO.out.block (HO.out.lt z hz).2))
      have HS5 := Lib.hid (show M ≤ w5.heap.size from Nat.le_trans HNW.out HMO.out.size)
      have HB5 := Lib.hid (show Below M w1 w5 from HB.out.trans (HMO.out.below.mono HNW.out))
      have hlt9 := HLT.out
      have hln9 := HLN.out
      have HL9 := Lib.hid (room32 (n := j + 1) (by have := HLN.out; omega))
      go_wp2_with (at_builtin; refine wpList_append_own _ rfl _ _ 27 rfl M 48 i0 _ 4 32 Try.underlying27 hi0 hz0 hz1 hz2 rfl (by omega) (.slice oa j oc) j (flatC kC (keysG (l.take j))) rfl (owns_keep HO5.out (fun z hz => Below.heap_alloc w5 _ _ (HO5.out.lt z hz).2)) ⟨w5.heap.size, 0, none⟩ 1 1 [.int .u8 x.2.k.kind, .int .i64 x.2.k.a, .int .i64 x.2.k.b, .int .i64 x.2.k.n] rfl rfl (World.news_of_block (cs := #[.int .u8 x.2.k.kind, .int .i64 x.2.k.a, .int .i64 x.2.k.b, .int .i64 x.2.k.n]) (t := 48) (fr := (0, 0)) (alloc_last _ _)) (by simp [Value.oneCell']) HL9.out.1 HL9.out.2 (by rw [World.size_alloc]; exact Nat.le_succ_of_le HS5.out) ?_; intro v8 w8 hown8 hgrow8 _)
      have HB8 := Lib.hid ((HB5.out.alloc HS5.out _).grown hgrow8 (by rw [World.size_alloc]; exact Nat.le_succ_of_le HS5.out) (fun z hz => (HO5.out.lt z hz).1))
      have HO8 := Lib.hid (show w8.ownsRow M 48 4 v8 (j + 1) (flatC kC (keysG (l.take (j + 1)))) by rw [HT.out, flatC_push]; exact hown8)
      clear hown8 hgrow8 c0 c1 c2 c3 hbc
      go_wp2_with fail
      go_roundw
      case rel => exact ⟨j + 1, by omega, by go_num, HB8, HO8⟩
      case measure => have := HLT.out; simp [intOf]; omega
    · obtain rfl : j = ln := by omega
      rw [List.take_of_length_le (by rw [HLE.out]; exact Nat.le_refl _)] at HO
      have HLK := Lib.hid (show (keysG l).length = j by unfold keysG; rw [List.length_map, HLE.out])
      go_wp2_with fail
      go_ret
      refine ⟨⟨_, rfl, ?_⟩, ?_⟩
      · rw [HLK.out]
        exact owns_base HO.out (by rw [HN.out, HMM.out]; exact HM1.out.size)
      · rw [HN.out]; exact HMX.out.below
end Go.Proofs.Ytemeppfikpafbaa

/- (choice.Set).find$1 (149), slices.BinarySearchFunc (148), find (98), Get (83), on choices of all kinds. -/
namespace Go.Proofs.Ytemeppfikpafbaa
open Go.RowKit
set_option maxRecDepth 10000 in
theorem findCmp_gen (x : GV) (k : K4) (xa : Option Addr) (xc : Nat) (w : World) : Calls Try.prog 149 #[.agg #[.int .u8 x.2.k.kind, .int .i64 x.2.k.a, .int .i64 x.2.k.b, .int .i64 x.2.k.n, .int .i64 x.2.t, .int .i64 x.2.d, .slice xa x.2.l.length xc], .agg #[.int .u8 k.kind, .int .i64 k.a, .int .i64 k.b, .int .i64 k.n]] w fun e w' => e = .returned (.int .i64 (cmpK4 x.2.k k)) ∧ Lay w w' := by
  have HC := Lib.hid (fun w => compareK_any x.2.k k w)
  unfold kA at HC
  generalize cmpK4 x.2.k k = c at *
  go_enter Try.func149, Try.ntmps149
  go_wp2_with fail
  refine (HC.out _).mono ?_
  rintro e w2 ⟨rfl, hl2⟩
  have HM := Lib.hid (((Lay.alloc _ _).trans (Lay.alloc _ _)).trans hl2)
  clear hl2
  go_wp2_with fail
  go_ret
  exact ⟨rfl, HM.out⟩
/-- p is the place of the key k. -/
def PlaceG (l : List GV) (k : K4) (p : Nat) : Prop := p ≤ l.length ∧ (∀ i (h : i < l.length), i < p → cmpK4 l[i].2.k k < 0) ∧ ∀ i (h : i < l.length), p ≤ i → 0 ≤ cmpK4 l[i].2.k k
theorem cmpK4_zeroG (x y : K4) : cmpK4 x y = 0 ↔ x = y := by
  constructor
  · intro h
    refine ltK_tri (fun e => ?_) (fun e => ?_)
    · have := (cmpK4_neg x y).2 e; omega
    · unfold ltK at e
      unfold cmpK4 at h
      rw [orI_zero, orI_zero, orI_zero, orI_zero, cmpI_zero, cmpI_zero, cmpI_zero, cmpI_zero] at h
      omega
  · rintro rfl
    unfold cmpK4
    rw [orI_zero, orI_zero, orI_zero, orI_zero, cmpI_zero, cmpI_zero, cmpI_zero, cmpI_zero]
    exact ⟨rfl, rfl, rfl, rfl, rfl⟩
theorem AscG.lt_of {l : List GV} (h : AscG l) {k : K4} {i m : Nat} (hi : i < l.length) (hm : m < l.length) (him : i ≤ m) (hk : cmpK4 l[m].2.k k < 0) : cmpK4 l[i].2.k k < 0 := by
  rcases Nat.lt_or_eq_of_le him with h1 | h1
  · have := List.pairwise_iff_getElem.1 h i m hi hm h1
    rw [cmpK4_neg] at hk ⊢
    exact ltK_trans this hk
  · subst h1; exact hk
set_option maxRecDepth 100000 in
set_option maxHeartbeats 4000000 in
theorem search_gen (l : List GV) (k : K4) (v : Value) (w : World) (hl : l.length < 4294967296) (hasc : AscG l) (hsh : ∀ p ∈ l, ∃ a c, p.1 = .slice a p.2.l.length c) (h : Row anyB w 7 l.length v (flatC gC l)) :
    Calls Try.prog 148 #[v, .agg #[.int .u8 k.kind, .int .i64 k.a, .int .i64 k.b, .int .i64 k.n], .func (.func 149) #[] #[]] w fun e w' => (∃ p, PlaceG l k p ∧ e = .returned (.tuple #[.int .i64 p, .bool (l[p]?.map (·.2.k) == some k)])) ∧ Lay w w' := by
  obtain ⟨a, cap, rfl, hcap⟩ := h.shape
  have HR := Lib.hid h; clear h
  have HA := Lib.hid hasc; clear hasc
  have HSH := Lib.hid hsh; clear hsh
  go_enter Try.func148, Try.ntmps148
  go_wp2_with fail
  have HKB := Lib.hid (alloc_last w (.cells #[.int .u8 k.kind, .int .i64 k.a, .int .i64 k.b, .int .i64 k.n] 48))
  have HL1 := Lib.hid (Lay.alloc w (.cells #[.int .u8 k.kind, .int .i64 k.a, .int .i64 k.b, .int .i64 k.n] 48))
  obtain ⟨KB, HKK⟩ : ∃ KB, Hid (KB = w.heap.size) := ⟨_, Lib.hid rfl⟩
  rw [← HKK.out] at HKB ⊢
  generalize w.alloc (.cells #[.int .u8 k.kind, .int .i64 k.a, .int .i64 k.b, .int .i64 k.n] 48) = w1 at *
  go_loopw [9, 10] (fun i j wr => ∃ lo hi : Nat, lo ≤ hi ∧ hi ≤ l.length ∧ i = .int .i64 lo ∧ j = .int .i64 hi ∧ Hid (Lay w1 wr) ∧ Hid ((∀ i (h : i < l.length), i < lo → cmpK4 l[i].2.k k < 0) ∧ ∀ i (h : i < l.length), hi ≤ i → 0 ≤ cmpK4 l[i].2.k k)) (fun i j _ => (intOf j).toNat - (intOf i).toNat)
  case atStart => exact ⟨0, l.length, Nat.zero_le _, Nat.le_refl _, rfl, rfl, Lib.hid (Lay.refl _), Lib.hid ⟨fun _ _ h => absurd h (Nat.not_lt_zero _), fun i h h' => by omega⟩⟩
  case round =>
    obtain ⟨lo, hi, hlo, hhi, rfl, rfl, HLr, HP⟩ := hrel
    have HK4 := Lib.hid (show ∀ W, Lay wr W → W.heap[KB]? = some (.cells #[.int .u8 k.kind, .int .i64 k.a, .int .i64 k.b, .int .i64 k.n] 48) from fun W h => ((HLr.out.trans h).1.block (blk_lt HKB.out)).trans HKB.out)
    have HMW := Lib.hid (HL1.out.trans HLr.out)
    by_cases hlt : lo < hi
    · obtain ⟨m, hm⟩ : ∃ m : Nat, ((lo : Int) + hi) / 2 = m := ⟨(lo + hi) / 2, by omega⟩
      have hml : m < l.length := by omega
      have hm1 : lo ≤ m := by omega
      have hm2 : m < hi := by omega
      obtain ⟨b, off, rfl, _, hc⟩ := HR.out.atC gC_len hml
      have g0 := HMW.out.1.cell (hc 0 (.int .u8 l[m].2.k.kind) rfl)
      have g1 := HMW.out.1.cell (hc 1 (.int .i64 l[m].2.k.a) rfl)
      have g2 := HMW.out.1.cell (hc 2 (.int .i64 l[m].2.k.b) rfl)
      have g3 := HMW.out.1.cell (hc 3 (.int .i64 l[m].2.k.n) rfl)
      have g4 := HMW.out.1.cell (hc 4 (.int .i64 l[m].2.t) rfl)
      have g5 := HMW.out.1.cell (hc 5 (.int .i64 l[m].2.d) rfl)
      have g6 := HMW.out.1.cell (hc 6 l[m].1 rfl)
      obtain ⟨xa, xc, hxv⟩ := HSH.out _ (List.getElem_mem hml)
      rw [hxv] at g6
      clear hxv
      rw [Nat.add_zero] at g0
      clear hc
      have HMT := Lib.hid (fun (hk : cmpK4 l[m].2.k k < 0) i (hi : i < l.length) (him : i ≤ m) => HA.out.lt_of hi hml him hk)
      have HMG := Lib.hid (show 0 ≤ cmpK4 l[m].2.k k → ∀ i (hi : i < l.length), m ≤ i → 0 ≤ cmpK4 l[i].2.k k from fun hk i hi him => by
        rcases Int.lt_or_le (cmpK4 l[i].2.k k) 0 with e | e
        · have := HA.out.lt_of hml hi him e; omega
        · exact e)
      have HC := Lib.hid (fun W => findCmp_gen l[m] k xa xc W)
      obtain ⟨r, HRR⟩ : ∃ r, Hid (cmpK4 l[m].2.k k = r) := ⟨_, Lib.hid rfl⟩
      rw [HRR.out] at HC HMT HMG
      generalize l[m] = x at *
      have hbg := cell_lt g0
      have HK := Lib.hid (show ∀ W, Lay wr W → (W.cell? ⟨b, off + m * 7, none⟩ = some (.int .u8 x.2.k.kind) ∧ W.cell? ⟨b, off + m * 7 + 1, none⟩ = some (.int .i64 x.2.k.a) ∧ W.cell? ⟨b, off + m * 7 + 2, none⟩ = some (.int .i64 x.2.k.b) ∧ W.cell? ⟨b, off + m * 7 + 3, none⟩ = some (.int .i64 x.2.k.n) ∧ W.cell? ⟨b, off + m * 7 + 4, none⟩ = some (.int .i64 x.2.t) ∧ W.cell? ⟨b, off + m * 7 + 5, none⟩ = some (.int .i64 x.2.d) ∧ W.cell? ⟨b, off + m * 7 + 6, none⟩ = some (.slice xa x.2.l.length xc) ∧ W.cell? ⟨KB, 0, none⟩ = some (.int .u8 k.kind) ∧ W.cell? ⟨KB, 1, none⟩ = some (.int .i64 k.a) ∧ W.cell? ⟨KB, 2, none⟩ = some (.int .i64 k.b) ∧ W.cell? ⟨KB, 3, none⟩ = some (.int .i64 k.n)) from fun W h => ⟨h.1.cell g0, h.1.cell g1, h.1.cell g2, h.1.cell g3, h.1.cell g4, h.1.cell g5, h.1.cell g6, cell_of_blk (HK4.out W h) rfl, cell_of_blk (HK4.out W h) rfl, cell_of_blk (HK4.out W h) rfl, cell_of_blk (HK4.out W h) rfl⟩)
      have HL := Lib.hid (Lay.drew wr)
      go_upto_region 5 with (fail)
      clear hm
      obtain ⟨z, HZ⟩ : ∃ z, Hid (decide (r < 0) = z) := ⟨_, Lib.hid rfl⟩
      go_cut [31] (fun s wx => s = .bool z ∧ Hid (Lay wr wx))
      case first =>
        go_region_held3 (fun W => W.cell? ⟨b, off + m * 7, none⟩ = some (.int .u8 x.2.k.kind) ∧ W.cell? ⟨b, off + m * 7 + 1, none⟩ = some (.int .i64 x.2.k.a) ∧ W.cell? ⟨b, off + m * 7 + 2, none⟩ = some (.int .i64 x.2.k.b) ∧ W.cell? ⟨b, off + m * 7 + 3, none⟩ = some (.int .i64 x.2.k.n) ∧ W.cell? ⟨b, off + m * 7 + 4, none⟩ = some (.int .i64 x.2.t) ∧ W.cell? ⟨b, off + m * 7 + 5, none⟩ = some (.int .i64 x.2.d) ∧ W.cell? ⟨b, off + m * 7 + 6, none⟩ = some (.slice xa x.2.l.length xc) ∧ W.cell? ⟨KB, 0, none⟩ = some (.int .u8 k.kind) ∧ W.cell? ⟨KB, 1, none⟩ = some (.int .i64 k.a) ∧ W.cell? ⟨KB, 2, none⟩ = some (.int .i64 k.b) ∧ W.cell? ⟨KB, 3, none⟩ = some (.int .i64 k.n)) (first | with_reducible exact HK.out _ HL.out) (first | (go_at_call 149; refine (HC.out _).mono ?_; rintro e w3 ⟨rfl, hl3⟩; have HL := Lib.hid (HL.out.trans hl3); clear hl3))
        all_goals
          go_wp2_with fail
          go_meet
          case rel => exact ⟨by rw [← HZ.out], HL⟩
      case rest =>
        obtain ⟨rfl, HLc⟩ := hcut
        clear HL HK HC g0 g1 g2 g3 g4 g5 g6 hbg
        cases z with
        | true =>
          have HH := Lib.hid (HMT.out (of_decide_eq_true HZ.out))
          go_wp2_with fail
          go_roundw
          case rel => exact ⟨m + 1, hi, by omega, hhi, by go_num, rfl, Lib.hid (HLr.out.trans HLc.out), Lib.hid ⟨fun i h h' => HH.out i h (by omega), HP.out.2⟩⟩
          case measure => simp [intOf]; omega
        | false =>
          have HH := Lib.hid (HMG.out (by have := of_decide_eq_false HZ.out; omega))
          go_wp2_with fail
          go_roundw
          case rel => exact ⟨lo, m, hm1, by omega, rfl, rfl, Lib.hid (HLr.out.trans HLc.out), Lib.hid ⟨HP.out.1, fun i h h' => HH.out i h h'⟩⟩
          case measure => simp [intOf]; omega
    · obtain rfl : hi = lo := by omega
      by_cases hin : hi < l.length
      · obtain ⟨b, off, rfl, _, hc⟩ := HR.out.atC gC_len hin
        have g0 := HMW.out.1.cell (hc 0 (.int .u8 l[hi].2.k.kind) rfl)
        have g1 := HMW.out.1.cell (hc 1 (.int .i64 l[hi].2.k.a) rfl)
        have g2 := HMW.out.1.cell (hc 2 (.int .i64 l[hi].2.k.b) rfl)
        have g3 := HMW.out.1.cell (hc 3 (.int .i64 l[hi].2.k.n) rfl)
        have g4 := HMW.out.1.cell (hc 4 (.int .i64 l[hi].2.t) rfl)
        have g5 := HMW.out.1.cell (hc 5 (.int .i64 l[hi].2.d) rfl)
        have g6 := HMW.out.1.cell (hc 6 l[hi].1 rfl)
        obtain ⟨xa, xc, hxv⟩ := HSH.out _ (List.getElem_mem hin)
        rw [hxv] at g6
        clear hxv
        rw [Nat.add_zero] at g0
        clear hc
        have HE := Lib.hid (show (l[hi]?.map (·.2.k) == some k) = (cmpK4 l[hi].2.k k == 0) by
          rw [List.getElem?_eq_getElem hin]; simp only [Option.map_some]
          rw [Bool.eq_iff_iff]; simp [cmpK4_zeroG])
        have HC := Lib.hid (fun W => findCmp_gen l[hi] k xa xc W)
        obtain ⟨r, HRR⟩ : ∃ r, Hid (cmpK4 l[hi].2.k k = r) := ⟨_, Lib.hid rfl⟩
        rw [HRR.out] at HC HE
        generalize l[hi] = x at *
        have hbg := cell_lt g0
        have HK := Lib.hid (show ∀ W, Lay wr W → (W.cell? ⟨b, off + hi * 7, none⟩ = some (.int .u8 x.2.k.kind) ∧ W.cell? ⟨b, off + hi * 7 + 1, none⟩ = some (.int .i64 x.2.k.a) ∧ W.cell? ⟨b, off + hi * 7 + 2, none⟩ = some (.int .i64 x.2.k.b) ∧ W.cell? ⟨b, off + hi * 7 + 3, none⟩ = some (.int .i64 x.2.k.n) ∧ W.cell? ⟨b, off + hi * 7 + 4, none⟩ = some (.int .i64 x.2.t) ∧ W.cell? ⟨b, off + hi * 7 + 5, none⟩ = some (.int .i64 x.2.d) ∧ W.cell? ⟨b, off + hi * 7 + 6, none⟩ = some (.slice xa x.2.l.length xc) ∧ W.cell? ⟨KB, 0, none⟩ = some (.int .u8 k.kind) ∧ W.cell? ⟨KB, 1, none⟩ = some (.int .i64 k.a) ∧ W.cell? ⟨KB, 2, none⟩ = some (.int .i64 k.b) ∧ W.cell? ⟨KB, 3, none⟩ = some (.int .i64 k.n)) from fun W h => ⟨h.1.cell g0, h.1.cell g1, h.1.cell g2, h.1.cell g3, h.1.cell g4, h.1.cell g5, h.1.cell g6, cell_of_blk (HK4.out W h) rfl, cell_of_blk (HK4.out W h) rfl, cell_of_blk (HK4.out W h) rfl, cell_of_blk (HK4.out W h) rfl⟩)
        have HL := Lib.hid (Lay.drew wr)
        go_upto_region 8 with (fail)
        go_region_held3 (fun W => W.cell? ⟨b, off + hi * 7, none⟩ = some (.int .u8 x.2.k.kind) ∧ W.cell? ⟨b, off + hi * 7 + 1, none⟩ = some (.int .i64 x.2.k.a) ∧ W.cell? ⟨b, off + hi * 7 + 2, none⟩ = some (.int .i64 x.2.k.b) ∧ W.cell? ⟨b, off + hi * 7 + 3, none⟩ = some (.int .i64 x.2.k.n) ∧ W.cell? ⟨b, off + hi * 7 + 4, none⟩ = some (.int .i64 x.2.t) ∧ W.cell? ⟨b, off + hi * 7 + 5, none⟩ = some (.int .i64 x.2.d) ∧ W.cell? ⟨b, off + hi * 7 + 6, none⟩ = some (.slice xa x.2.l.length xc) ∧ W.cell? ⟨KB, 0, none⟩ = some (.int .u8 k.kind) ∧ W.cell? ⟨KB, 1, none⟩ = some (.int .i64 k.a) ∧ W.cell? ⟨KB, 2, none⟩ = some (.int .i64 k.b) ∧ W.cell? ⟨KB, 3, none⟩ = some (.int .i64 k.n)) (first | with_reducible exact HK.out _ HL.out) (first | (go_at_call 149; refine (HC.out _).mono ?_; rintro e w3 ⟨rfl, hl3⟩; have HL := Lib.hid (HL.out.trans hl3); clear hl3))
        all_goals
          go_wp2_with fail
          go_ret2
          exact ⟨⟨hi, ⟨hhi, HP.out⟩, by rw [HE.out]; rfl⟩, HMW.out.trans HL.out⟩
      · have HE := Lib.hid (show (l[hi]?.map (·.2.k) == some k) = false by rw [List.getElem?_eq_none (by omega)]; rfl)
        go_upto_region 8 with (fail)
        go_quiet (fail)
        go_wp2_with fail
        go_ret2
        exact ⟨⟨hi, ⟨hhi, HP.out⟩, by rw [HE.out]; rfl⟩, HMW.out.trans (Lay.drewN wr nq)⟩
/-- Whether a set has a key. -/
def hasG (l : List GV) (k : K4) : Bool := l.any fun x => decide (x.2.k = k)
theorem hasG_some {l : List GV} {k : K4} {p : Nat} (hp : p < l.length) (hk : l[p].2.k = k) : hasG l k = true := by
  unfold hasG
  rw [List.any_eq_true]
  exact ⟨l[p], List.getElem_mem hp, by simp [hk]⟩
theorem hasG_none {l : List GV} {k : K4} {p : Nat} (h : PlaceG l k p) (ha : AscG l) (hk : (l[p]?.map (·.2.k) == some k) = false) : hasG l k = false := by
  unfold hasG
  rw [List.any_eq_false]
  intro x hx
  rw [decide_eq_true_iff]
  intro e
  obtain ⟨i, hi, rfl⟩ := List.getElem_of_mem hx
  have hz := (cmpK4_zeroG _ _).2 e
  obtain ⟨h1, h2, h3⟩ := h
  rcases Nat.lt_trichotomy i p with h4 | h4 | h4
  · have := h2 i hi h4; omega
  · subst h4
    rw [List.getElem?_eq_getElem hi] at hk
    simp [e] at hk
  · have hp : p < l.length := by omega
    have hlt := List.pairwise_iff_getElem.1 ha p i hp hi h4
    have h5 := h3 p hp (Nat.le_refl _)
    rw [e] at hlt
    have := (cmpK4_neg _ _).2 hlt
    omega
set_option maxRecDepth 10000 in
theorem find98_gen (l : List GV) (k : K4) (v : Value) (w : World) (hl : l.length < 4294967296) (hasc : AscG l) (hsh : ∀ p ∈ l, ∃ a c, p.1 = .slice a p.2.l.length c) (h : Row anyB w 7 l.length v (flatC gC l)) :
    Calls Try.prog 98 #[.agg #[v], .agg #[.int .u8 k.kind, .int .i64 k.a, .int .i64 k.b, .int .i64 k.n]] w fun e w' => (∃ p, PlaceG l k p ∧ e = .returned (.tuple #[.int .i64 p, .bool (l[p]?.map (·.2.k) == some k)])) ∧ Lay w w' := by
  obtain ⟨a, cap, rfl, _⟩ := h.shape
  have HS := Lib.hid (fun W (hW : Lay w W) => search_gen l k _ W hl hasc hsh (h.below hW.1.below))
  clear h hasc hl hsh
  go_enter Try.func98, Try.ntmps98
  go_wp2_with fail
  refine (HS.out _ ((Lay.alloc _ _).trans (Lay.alloc _ _))).mono ?_
  rintro e w3 ⟨⟨p, hp, rfl⟩, hl3⟩
  have HP := Lib.hid hp
  have HL := Lib.hid (((Lay.alloc w _).trans (Lay.alloc _ _)).trans hl3)
  clear hp hl3
  obtain ⟨z, HZ⟩ : ∃ z, Hid ((l[p]?.map (·.2.k) == some k) = z) := ⟨_, Lib.hid rfl⟩
  rw [HZ.out]
  go_wp2_with fail
  go_ret2
  exact ⟨⟨p, HP.out, by rw [HZ.out]; rfl⟩, HL.out⟩
theorem SetAt.shape {S : Nat → Prop} {w : World} {v : Value} {l : List GV} (h : SetAt S w v l) : ∀ p ∈ l, ∃ a c, p.1 = .slice a p.2.l.length c := fun p hp => by
  obtain ⟨a, c, e, _⟩ := (h.arg p hp).row.shape
  exact ⟨a, c, e⟩
set_option maxRecDepth 100000 in
set_option maxHeartbeats 2000000 in
theorem get83_gen (l : List GV) (k : K4) (v : Value) (w : World) (hs : SetAt anyB w v l) :
    Calls Try.prog 83 #[.agg #[v], .agg #[.int .u8 k.kind, .int .i64 k.a, .int .i64 k.b, .int .i64 k.n]] w fun e w' => (∃ (a : Option Addr) (n c : Nat) (y : Cg), e = .returned (.tuple #[gA (.slice a n c, y), .bool (hasG l k)])) ∧ Below w.heap.size w w' := by
  obtain ⟨a, cap, rfl, _⟩ := hs.row.shape
  have HSH := Lib.hid hs.shape
  have HS := Lib.hid (fun W (hW : More w W) => find98_gen l k _ W (by have := hs.len; omega) hs.asc hs.shape (hs.row.below hW.below))
  have HST := Lib.hid hs; clear hs
  go_enter Try.func83, Try.ntmps83
  go_wp2_with fail
  have HSB := Lib.hid (show (((w.alloc (.cells #[.slice a l.length cap] 73)).alloc (.cells #[.int .u8 k.kind, .int .i64 k.a, .int .i64 k.b, .int .i64 k.n] 48)).alloc (.cells #[.int .u8 0, .int .i64 0, .int .i64 0, .int .i64 0, .int .i64 0, .int .i64 0, .slice none 0 0] 113)).heap[w.heap.size]? = some (.cells #[.slice a l.length cap] 73) by
    rw [Below.heap_alloc _ _ _ (by simp; omega), Below.heap_alloc _ _ _ (by simp)]; exact alloc_last _ _)
  have HRB := Lib.hid (show (((w.alloc (.cells #[.slice a l.length cap] 73)).alloc (.cells #[.int .u8 k.kind, .int .i64 k.a, .int .i64 k.b, .int .i64 k.n] 48)).alloc (.cells #[.int .u8 0, .int .i64 0, .int .i64 0, .int .i64 0, .int .i64 0, .int .i64 0, .slice none 0 0] 113)).heap[w.heap.size + 1 + 1]? = some (.cells #[.int .u8 0, .int .i64 0, .int .i64 0, .int .i64 0, .int .i64 0, .int .i64 0, .slice none 0 0] 113) from alloc_at _ _ (by simp))
  have HL3 := Lib.hid (more_trans (more_trans (more_alloc w (.cells #[.slice a l.length cap] 73)) (more_alloc _ (.cells #[.int .u8 k.kind, .int .i64 k.a, .int .i64 k.b, .int .i64 k.n] 48))) (more_alloc _ (.cells #[.int .u8 0, .int .i64 0, .int .i64 0, .int .i64 0, .int .i64 0, .int .i64 0, .slice none 0 0] 113)))
  generalize ((w.alloc (.cells #[.slice a l.length cap] 73)).alloc (.cells #[.int .u8 k.kind, .int .i64 k.a, .int .i64 k.b, .int .i64 k.n] 48)).alloc (.cells #[.int .u8 0, .int .i64 0, .int .i64 0, .int .i64 0, .int .i64 0, .int .i64 0, .slice none 0 0] 113) = w3 at *
  refine (HS.out _ HL3.out).mono ?_
  rintro e w4 ⟨⟨p, hp, rfl⟩, hl4⟩
  have HP := Lib.hid hp
  have HL4 := Lib.hid (more_trans HL3.out hl4.1)
  have HSB4 := Lib.hid ((hl4.1.block (blk_lt HSB.out)).trans HSB.out)
  have HRB4 := Lib.hid ((hl4.1.block (blk_lt HRB.out)).trans HRB.out)
  clear hp hl4 HSB HRB HS
  obtain ⟨RB, HRE⟩ : ∃ RB, Hid (RB = w.heap.size + 1 + 1) := ⟨_, Lib.hid rfl⟩
  rw [← HRE.out] at HRB4 ⊢
  obtain ⟨z, hz⟩ : ∃ z, (l[p]?.map (·.2.k) == some k) = z := ⟨_, rfl⟩
  rw [hz]
  have r0 : w4.cell? ⟨RB, 0, none⟩ = some (.int .u8 0) := cell_of_blk HRB4.out rfl
  have r1 : w4.cell? ⟨RB, 1, none⟩ = some (.int .i64 0) := cell_of_blk HRB4.out rfl
  have r2 : w4.cell? ⟨RB, 2, none⟩ = some (.int .i64 0) := cell_of_blk HRB4.out rfl
  have r3 : w4.cell? ⟨RB, 3, none⟩ = some (.int .i64 0) := cell_of_blk HRB4.out rfl
  have r4 : w4.cell? ⟨RB, 4, none⟩ = some (.int .i64 0) := cell_of_blk HRB4.out rfl
  have r5 : w4.cell? ⟨RB, 5, none⟩ = some (.int .i64 0) := cell_of_blk HRB4.out rfl
  have r6 : w4.cell? ⟨RB, 6, none⟩ = some (.slice none 0 0) := cell_of_blk HRB4.out rfl
  have f0 := thaw HRB4.out 0
  have f1 := thaw HRB4.out 1
  have f2 := thaw HRB4.out 2
  have f3 := thaw HRB4.out 3
  have f4 := thaw HRB4.out 4
  have f5 := thaw HRB4.out 5
  have f6 := thaw HRB4.out 6
  have hbr := cell_lt r0
  have s0 : w4.cell? ⟨w.heap.size, 0, none⟩ = some (.slice a l.length cap) := cell_of_blk HSB4.out rfl
  have hsb := cell_lt s0
  cases z with
  | false =>
    have HN := Lib.hid (hasG_none HP.out HST.out.asc hz)
    clear hz
    go_wp2_with fail
    generalize hw5 : (((((w4.setCell ⟨RB, 0, none⟩ (.int .u8 0)).setCell ⟨RB, 1, none⟩ (.int .i64 0)).setCell ⟨RB, 2, none⟩ (.int .i64 0)).setCell ⟨RB, 3, none⟩ (.int .i64 0)).setCell ⟨RB, 4, none⟩ (.int .i64 0)).setCell ⟨RB, 5, none⟩ (.int .i64 0) = w5b
    generalize hw6 : w5b.setCell ⟨RB, 6, none⟩ (.slice none 0 0) = w5
    obtain ⟨HQ4, HZ4, HB4⟩ := set7 HRB4.out (W := w5) (by rw [← hw6, ← hw5])
    clear hw5 hw6 r0 r1 r2 r3 r4 r5 r6 f0 f1 f2 f3 f4 f5 f6
    have c0 : w5.cell? ⟨RB, 0, none⟩ = some (.int .u8 0) := cell_of_blk HQ4 rfl
    have c1 : w5.cell? ⟨RB, 1, none⟩ = some (.int .i64 0) := cell_of_blk HQ4 rfl
    have c2 : w5.cell? ⟨RB, 2, none⟩ = some (.int .i64 0) := cell_of_blk HQ4 rfl
    have c3 : w5.cell? ⟨RB, 3, none⟩ = some (.int .i64 0) := cell_of_blk HQ4 rfl
    have c4 : w5.cell? ⟨RB, 4, none⟩ = some (.int .i64 0) := cell_of_blk HQ4 rfl
    have c5 : w5.cell? ⟨RB, 5, none⟩ = some (.int .i64 0) := cell_of_blk HQ4 rfl
    have c6 : w5.cell? ⟨RB, 6, none⟩ = some (.slice none 0 0) := cell_of_blk HQ4 rfl
    exact bodyPost_ret (v := .tuple #[.agg #[.int .u8 0, .int .i64 0, .int .i64 0, .int .i64 0, .int .i64 0, .int .i64 0, .slice none 0 0], .bool false]) (by simp [results, Try.results83, go_sem, c0, c1, c2, c3, c4, c5, c6]) rfl ⟨⟨none, 0, 0, ⟨⟨0, 0, 0, 0⟩, 0, 0, []⟩, by rw [HN.out]; rfl⟩, HB4 _ _ HL4.out.below (by rw [HRE.out]; omega)⟩
  | true =>
    have hin : p < l.length := by
      by_cases h : p < l.length
      · exact h
      · rw [List.getElem?_eq_none (by omega)] at hz; simp at hz
    have hk : l[p].2.k = k := by rw [List.getElem?_eq_getElem hin] at hz; simpa using hz
    have HG := Lib.hid (hasG_some hin hk)
    clear hz hk
    have hrw := HST.out.row
    obtain ⟨b, off, rfl, _, hc⟩ := hrw.atC gC_len hin
    have g0 := HL4.out.cell (hc 0 (.int .u8 l[p].2.k.kind) rfl)
    have g1 := HL4.out.cell (hc 1 (.int .i64 l[p].2.k.a) rfl)
    have g2 := HL4.out.cell (hc 2 (.int .i64 l[p].2.k.b) rfl)
    have g3 := HL4.out.cell (hc 3 (.int .i64 l[p].2.k.n) rfl)
    have g4 := HL4.out.cell (hc 4 (.int .i64 l[p].2.t) rfl)
    have g5 := HL4.out.cell (hc 5 (.int .i64 l[p].2.d) rfl)
    have g6 := HL4.out.cell (hc 6 l[p].1 rfl)
    rw [Nat.add_zero] at g0
    obtain ⟨xa, xc, hxv⟩ := HSH.out _ (List.getElem_mem hin)
    rw [hxv] at g6
    have HGX := Lib.hid (show gA l[p] = .agg #[.int .u8 l[p].2.k.kind, .int .i64 l[p].2.k.a, .int .i64 l[p].2.k.b, .int .i64 l[p].2.k.n, .int .i64 l[p].2.t, .int .i64 l[p].2.d, .slice xa l[p].2.l.length xc] by unfold gA; rw [hxv])
    have HGA := Lib.hid (HST.out.arg _ (List.getElem_mem hin))
    have HKO := Lib.hid (HST.out.ok _ (List.getElem_mem hin)).args
    clear hc hrw hxv
    generalize l[p] = x at *
    have HC := Lib.hid (show ∀ W, More w W → Calls Try.prog 100 #[.agg #[.int .u8 x.2.k.kind, .int .i64 x.2.k.a, .int .i64 x.2.k.b, .int .i64 x.2.k.n, .int .i64 x.2.t, .int .i64 x.2.d, .slice xa x.2.l.length xc]] W fun e w' => (∃ ya yc, e = .returned (.agg #[.int .u8 x.2.k.kind, .int .i64 x.2.k.a, .int .i64 x.2.k.b, .int .i64 x.2.k.n, .int .i64 x.2.t, .int .i64 x.2.d, .slice ya x.2.l.length yc])) ∧ Below W.heap.size W w' from fun W hW => by
      have h1 := clone100_gen x W (HGA.out.more hW) (by have := HKO.out; unfold maxLen; omega) (by have := HKO.out; omega)
      rw [HGX.out] at h1
      refine h1.mono ?_
      rintro e w' ⟨⟨ya, yc, he, _⟩, hb⟩
      exact ⟨⟨ya, yc, he⟩, hb⟩)
    have hbg := cell_lt g0
    have hpl : (p : Int) < l.length := by omega
    have hl96 := HST.out.len
    go_wp2_with fail
    refine (HC.out _ HL4.out).mono ?_
    rintro e w5 ⟨⟨ya, yc, rfl⟩, hb5⟩
    have HL5 := Lib.hid (more_trans HL4.out (more_of hb5))
    have HRB5 := Lib.hid (((more_of hb5).block (blk_lt HRB4.out)).trans HRB4.out)
    clear hb5 r0 r1 r2 r3 r4 r5 r6 f0 f1 f2 f3 f4 f5 f6 hbr g0 g1 g2 g3 g4 g5 g6 hbg s0 hsb
    have r0 : w5.cell? ⟨RB, 0, none⟩ = some (.int .u8 0) := cell_of_blk HRB5.out rfl
    have r1 : w5.cell? ⟨RB, 1, none⟩ = some (.int .i64 0) := cell_of_blk HRB5.out rfl
    have r2 : w5.cell? ⟨RB, 2, none⟩ = some (.int .i64 0) := cell_of_blk HRB5.out rfl
    have r3 : w5.cell? ⟨RB, 3, none⟩ = some (.int .i64 0) := cell_of_blk HRB5.out rfl
    have r4 : w5.cell? ⟨RB, 4, none⟩ = some (.int .i64 0) := cell_of_blk HRB5.out rfl
    have r5 : w5.cell? ⟨RB, 5, none⟩ = some (.int .i64 0) := cell_of_blk HRB5.out rfl
    have r6 : w5.cell? ⟨RB, 6, none⟩ = some (.slice none 0 0) := cell_of_blk HRB5.out rfl
    have f0 := thaw HRB5.out 0
    have f1 := thaw HRB5.out 1
    have f2 := thaw HRB5.out 2
    have f3 := thaw HRB5.out 3
    have f4 := thaw HRB5.out 4
    have f5 := thaw HRB5.out 5
    have f6 := thaw HRB5.out 6
    have hbr := cell_lt r0
    go_wp2_with fail
    generalize hw5 : (((((w5.setCell ⟨RB, 0, none⟩ (.int .u8 x.2.k.kind)).setCell ⟨RB, 1, none⟩ (.int .i64 x.2.k.a)).setCell ⟨RB, 2, none⟩ (.int .i64 x.2.k.b)).setCell ⟨RB, 3, none⟩ (.int .i64 x.2.k.n)).setCell ⟨RB, 4, none⟩ (.int .i64 x.2.t)).setCell ⟨RB, 5, none⟩ (.int .i64 x.2.d) = w6b
    generalize hw6 : w6b.setCell ⟨RB, 6, none⟩ (.slice ya x.2.l.length yc) = w6
    obtain ⟨HQ4, HZ4, HB4⟩ := set7 HRB5.out (W := w6) (by rw [← hw6, ← hw5])
    clear hw5 hw6 r0 r1 r2 r3 r4 r5 r6 f0 f1 f2 f3 f4 f5 f6
    have c0 : w6.cell? ⟨RB, 0, none⟩ = some (.int .u8 x.2.k.kind) := cell_of_blk HQ4 rfl
    have c1 : w6.cell? ⟨RB, 1, none⟩ = some (.int .i64 x.2.k.a) := cell_of_blk HQ4 rfl
    have c2 : w6.cell? ⟨RB, 2, none⟩ = some (.int .i64 x.2.k.b) := cell_of_blk HQ4 rfl
    have c3 : w6.cell? ⟨RB, 3, none⟩ = some (.int .i64 x.2.k.n) := cell_of_blk HQ4 rfl
    have c4 : w6.cell? ⟨RB, 4, none⟩ = some (.int .i64 x.2.t) := cell_of_blk HQ4 rfl
    have c5 : w6.cell? ⟨RB, 5, none⟩ = some (.int .i64 x.2.d) := cell_of_blk HQ4 rfl
    have c6 : w6.cell? ⟨RB, 6, none⟩ = some (.slice ya x.2.l.length yc) := cell_of_blk HQ4 rfl
    exact bodyPost_ret (v := .tuple #[.agg #[.int .u8 x.2.k.kind, .int .i64 x.2.k.a, .int .i64 x.2.k.b, .int .i64 x.2.k.n, .int .i64 x.2.t, .int .i64 x.2.d, .slice ya x.2.l.length yc], .bool true]) (by simp [results, Try.results83, go_sem, c0, c1, c2, c3, c4, c5, c6]) rfl ⟨⟨ya, x.2.l.length, yc, x.2, by rw [HG.out]; rfl⟩, HB4 _ _ HL5.out.below (by rw [HRE.out]; omega)⟩
end Go.Proofs.Ytemeppfikpafbaa

