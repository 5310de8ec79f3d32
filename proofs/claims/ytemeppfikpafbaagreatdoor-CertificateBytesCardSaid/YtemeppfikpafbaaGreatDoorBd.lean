/- Texts NewG, SetG, laid together. -/
import Derived.Deep.QuietTactic
import Derived.BigQuiet
import Derived.Test.YtemeppfikpafbaaGreatDoorBc
/- choice.New (86) on an ascending list of valid choices. -/
namespace Go.Proofs.YtemeppfikpafbaaGreatDoor
open Go.RowKit Go.Sort Go.Shelf
abbrev Pay := (Option Addr × Nat × Nat) × (Int × Int)
def payC (k : K4) (q : Pay) : List Value := [.int .u8 k.kind, .int .i64 k.a, .int .i64 k.b, .int .i64 k.n, .int .i64 q.2.1, .int .i64 q.2.2, .slice q.1.1 q.1.2.1 q.1.2.2]
theorem payC_len (k : K4) (q : Pay) : (payC k q).length = 7 := rfl
theorem payC_one (k : K4) (q : Pay) : ∀ v ∈ payC k q, v.oneCell' = true := by intro v hv; simp [payC] at hv; rcases hv with rfl | rfl | rfl | rfl | rfl | rfl | rfl <;> rfl
set_option maxRecDepth 10000 in
theorem newCmp_gen (f : K4 → Pay) : CmpSaid 46 (fun k => payC k (f k)) cmpK4 := by
  intro x y w
  have HC := Lib.hid (fun w => compareK_any x y w)
  unfold payC kA at *
  dsimp only
  generalize cmpK4 x y = c at *
  generalize f x = fx
  generalize f y = fy
  go_enter Tryz.func46, Tryz.ntmps46
  go_wp2_with fail
  refine (HC.out _).mono ?_
  rintro e w2 ⟨rfl, hl2⟩
  have HM := Lib.hid (((Lay.alloc _ _).trans (Lay.alloc _ _)).trans hl2)
  clear hl2
  go_wp2_with fail
  go_ret
  exact ⟨rfl, HM.out⟩
def payOf (p : GV) : Pay := match p.1 with
  | .slice a n c => ((a, n, c), (p.2.t, p.2.d))
  | _ => ((none, 0, 0), (0, 0))
theorem pay_of {p : GV} (h : ∃ a c, p.1 = .slice a p.2.l.length c) : payC p.2.k (payOf p) = gC p := by
  obtain ⟨a, c, h⟩ := h
  unfold payOf gC
  rw [h]
  rfl
def payL (l : List GV) (k : K4) : Pay := match l.find? (fun p => decide (p.2.k = k)) with
  | some p => payOf p
  | none => ((none, 0, 0), (0, 0))
theorem find_asc : ∀ {l : List GV}, AscG l → ∀ p ∈ l, l.find? (fun q => decide (q.2.k = p.2.k)) = some p
  | [], _, p, hp => by cases hp
  | x :: r, h, p, hp => by
    unfold AscG at h
    rw [List.pairwise_cons] at h
    rcases List.mem_cons.1 hp with rfl | hp
    · simp
    · have hne : ¬ x.2.k = p.2.k := fun e => by have := h.1 p hp; rw [e] at this; exact ltK_irrefl _ this
      rw [List.find?_cons, decide_eq_false hne]
      exact find_asc h.2 p hp
theorem flat_payL {l : List GV} (ha : AscG l) (hs : ∀ p ∈ l, ∃ a c, p.1 = .slice a p.2.l.length c) : flatC (fun k => payC k (payL l k)) (l.map (·.2.k)) = flatC gC l := by
  have h : ∀ (m : List GV), (∀ p ∈ m, p ∈ l) → flatC (fun k => payC k (payL l k)) (m.map (·.2.k)) = flatC gC m := by
    intro m
    induction m with
    | nil => intro _; rfl
    | cons x r ih =>
      intro hm
      have h1 := ih fun p hp => hm p (List.mem_cons_of_mem _ hp)
      have h2 : payC x.2.k (payL l x.2.k) = gC x := by
        unfold payL
        rw [find_asc ha x (hm x (by simp))]
        exact pay_of (hs x (hm x (by simp)))
      unfold flatC at h1 ⊢
      rw [List.map_cons, List.flatMap_cons, List.flatMap_cons, h1, h2]
  exact h l fun _ hp => hp
theorem sortG_any {l : List GV} (v : Value) (B : Nat) (w : World) (hl : l.length < 1000000) (ha : AscG l) (hs : ∀ p ∈ l, ∃ a c, p.1 = .slice a p.2.l.length c) (hown : w.ownsRow B 58 7 v l.length (flatC gC l)) :
    Calls Tryz.prog 45 #[v, .func (.func 46) #[] #[]] w fun e w' => e = .returned (.tuple #[]) ∧ w.grownBy w' v.ownBlock ∧ w'.ownsRow B 58 7 v l.length (flatC gC l) := by
  have hln : (l.map (·.2.k)).length = l.length := List.length_map _
  rw [← flat_payL ha hs, ← hln] at hown
  have h1 := sortF (ρ := Tryz.sortChoice_ren) Tryz.sortChoice agg113 size113 (enc := fun k => payC k (payL l k)) (fun _ => payC_len _ _) (by omega) (fun x => payC_one _ _) cmpK4 cmpK_by.swo cmpK_by.total 46 call127 (newCmp_gen (payL l)) (l.map (·.2.k)) v B 58 w (by omega) hown
  have hp : (l.map (·.2.k)).Pairwise fun x y => (!(ltOf cmpK4) y x) = true := by
    rw [List.pairwise_map]
    refine List.Pairwise.imp ?_ ha
    intro x y hxy
    have h2 : ¬ ltK y.2.k x.2.k := fun e => ltK_irrefl _ (ltK_trans hxy e)
    have h3 : (ltOf cmpK4) y.2.k x.2.k = false := by
      rw [← Bool.not_eq_true]
      exact fun e => h2 ((cmpK4_neg _ _).1 (by simpa [ltOf] using e))
    rw [h3]; rfl
  rw [List.mergeSort_of_pairwise hp, flat_payL ha hs, hln] at h1
  exact h1
theorem run_makeG (n : Nat) (hn : n < 4294967296) (w : World) :
    (Instr.makeSlice 23 (.int .i64 0) (.int .i64 (n : Int))).run Tryz.prog w = .ok (.slice (some ⟨w.heap.size, 0, none⟩) 0 n) (w.alloc (.cells (madeCells #[.int .u8 0, .int .i64 0, .int .i64 0, .int .i64 0, .int .i64 0, .int .i64 0, .slice none 0 0] (n * 7)) 58)) := by
  obtain ⟨i, hi, hzz⟩ := Option.map_eq_some_iff.1 infoG
  simp only [Prod.mk.injEq] at hzz
  obtain ⟨hz, hs, hb⟩ := hzz
  have hr := run_make (P := Tryz.prog) w 23 58 i _ Tryz.underlying23 hi hz .i64 .i64 0 n (by omega) (by omega) (by rw [hb]; omega) (by omega)
  simpa [Int.toNat_natCast, hs, Value.cells] using hr
theorem AscG.ne_next {l : List GV} (h : AscG l) {j : Nat} (h1 : j < l.length) (h2 : j + 1 < l.length) : l[j + 1].2.k ≠ l[j].2.k := by
  intro e
  have hp := List.pairwise_iff_getElem.1 h j (j + 1) h1 h2 (by omega)
  rw [e] at hp
  exact ltK_irrefl _ hp
theorem gargs_push {N : Nat} {w w' : World} {v v' : Value} {l : List GV} {p : GV} (h : ∀ x ∈ l, GArg (fun b => v.ownBlock ≠ some b ∧ N ≤ b) w x) (hp : GArg (fun b => v.ownBlock ≠ some b ∧ N ≤ b) w p) (hg : w.grownBy w' v.ownBlock) (hv : ∀ z, v'.ownBlock = some z → v.ownBlock = some z ∨ w.heap.size ≤ z) :
    ∀ x ∈ l ++ [p], GArg (fun b => v'.ownBlock ≠ some b ∧ N ≤ b) w' x := by
  have key : ∀ x : GV, GArg (fun b => v.ownBlock ≠ some b ∧ N ≤ b) w x → GArg (fun b => v'.ownBlock ≠ some b ∧ N ≤ b) w' x := fun x hx => hx.mono (fun b hb hl => ⟨fun e => by
    rcases hv b e with h1 | h1
    · exact hb.1 h1
    · omega, hb.2⟩) (fun b hb hl => hg.block b hl (fun e => hb.1 e.symm))
  intro x hx
  rcases List.mem_append.1 hx with h1 | h1
  · exact key x (h x h1)
  · rw [List.mem_singleton] at h1; subst h1; exact key x hp
/-- Choices with the same keys ascend alike. -/
theorem AscG.same {l m : List GV} (h : AscG l) (e : m.map (·.2) = l.map (·.2)) : AscG m := by
  have h1 : (l.map (·.2)).Pairwise fun x y : Cg => ltK x.k y.k := by rw [List.pairwise_map]; exact h
  rw [← e, List.pairwise_map] at h1
  exact h1
set_option maxRecDepth 100000 in
set_option maxHeartbeats 4000000 in
theorem new86_gen (l : List GV) (v : Value) (w : World) (hl : l.length ≤ 96) (hr : Row anyB w 7 l.length v (flatC gC l)) (hg : ∀ p ∈ l, GArg anyB w p ∧ p.2.l.length ≤ 4) (hok : ∀ p ∈ l, CgOk p.2) (hasc : AscG l) :
    Calls Tryz.prog 14 #[v] w fun e w' => (∃ v' l', e = .returned (.tuple #[.agg #[v'], .int .i64 0]) ∧ Row (fun b => w.heap.size ≤ b) w' 7 l'.length v' (flatC gC l') ∧ l'.map (·.2) = l.map (·.2) ∧ ∀ p ∈ l', GArg (fun b => w.heap.size ≤ b) w' p) ∧ Below w.heap.size w w' := by
  obtain ⟨a, cap, rfl, _⟩ := hr.shape
  have HR := Lib.hid hr; clear hr
  have HOK := Lib.hid hok; clear hok
  have HG := Lib.hid hg; clear hg
  have HASC := Lib.hid hasc; clear hasc
  have HLN := Lib.hid hl
  obtain ⟨i0, hi0, hz0, hz1, hz2⟩ := info_parts infoG
  have hmk := run_makeG l.length (by omega)
  go_enter Tryz.func14, Tryz.ntmps14
  go_wp2_with fail
  have HRB := Lib.hid (alloc_last w (.cells #[.slice none 0 0] 33))
  have HM2 := Lib.hid (more_alloc w (.cells #[.slice none 0 0] 33))
  obtain ⟨RB, HRR⟩ : ∃ RB, Hid (RB = w.heap.size) := ⟨_, Lib.hid rfl⟩
  rw [← HRR.out] at HRB ⊢
  generalize w.alloc (.cells #[.slice none 0 0] 33) = w2 at *
  go_loopw [13] (fun i wr => ∃ j : Nat, j ≤ l.length ∧ i = .int .i64 j ∧ Hid (More w2 wr)) (fun i _ => l.length - (intOf i).toNat)
  case atStart => exact ⟨0, Nat.zero_le _, rfl, Lib.hid (World.grownBy.refl _ _)⟩
  case round =>
    obtain ⟨j, hj, rfl, HMr⟩ := hrel
    have HMW := Lib.hid (more_trans HM2.out HMr.out)
    by_cases hlt : j < l.length
    · skip
      obtain ⟨b, off, rfl, _, hc⟩ := HR.out.atC gC_len hlt
      have g0 := HMW.out.cell (hc 0 (.int .u8 l[j].2.k.kind) rfl)
      have g1 := HMW.out.cell (hc 1 (.int .i64 l[j].2.k.a) rfl)
      have g2 := HMW.out.cell (hc 2 (.int .i64 l[j].2.k.b) rfl)
      have g3 := HMW.out.cell (hc 3 (.int .i64 l[j].2.k.n) rfl)
      have g4 := HMW.out.cell (hc 4 (.int .i64 l[j].2.t) rfl)
      have g5 := HMW.out.cell (hc 5 (.int .i64 l[j].2.d) rfl)
      have g6 := HMW.out.cell (hc 6 (l[j].1) rfl)
      rw [Nat.add_zero] at g0
      clear hc
      have HGA := Lib.hid (HG.out _ (List.getElem_mem hlt))
      have HKO := Lib.hid (HOK.out _ (List.getElem_mem hlt))
      obtain ⟨xa, xc, hxv, _⟩ := HGA.out.1.row.shape
      rw [hxv] at g6
      have HGX := Lib.hid (show gA l[j] = .agg #[.int .u8 l[j].2.k.kind, .int .i64 l[j].2.k.a, .int .i64 l[j].2.k.b, .int .i64 l[j].2.k.n, .int .i64 l[j].2.t, .int .i64 l[j].2.d, .slice xa l[j].2.l.length xc] by unfold gA; rw [hxv])
      have hsh : ∃ a c, l[j].1 = .slice a l[j].2.l.length c := ⟨_, _, hxv⟩
      have HSH := Lib.hid hsh
      clear hsh hxv
      have HLT := Lib.hid hlt
      generalize l[j] = x at *
      have hbg := cell_lt g0
      have HC := Lib.hid (show ∀ W, Calls Tryz.prog 43 #[.agg #[.int .u8 x.2.k.kind, .int .i64 x.2.k.a, .int .i64 x.2.k.b, .int .i64 x.2.k.n, .int .i64 x.2.t, .int .i64 x.2.d, .slice xa x.2.l.length xc]] W fun e w' => e = .returned (.int .i64 0) ∧ Lay W w' from fun W => by
        have h1 := check99_gen x W (by have := HKO.out.key.k0; omega) (by have := HKO.out.key.k1; omega) HSH.out (by have := HGA.out.2; unfold maxLen; omega)
        rw [HGX.out, (cgOkb_iff _).2 HKO.out, if_pos rfl] at h1
        exact h1)
      have HMO := Lib.hid (more_alloc wr (.cells #[.int .u8 x.2.k.kind, .int .i64 x.2.k.a, .int .i64 x.2.k.b, .int .i64 x.2.k.n, .int .i64 x.2.t, .int .i64 x.2.d, .slice xa x.2.l.length xc] 58))
      have HXB := Lib.hid (alloc_last wr (.cells #[.int .u8 x.2.k.kind, .int .i64 x.2.k.a, .int .i64 x.2.k.b, .int .i64 x.2.k.n, .int .i64 x.2.t, .int .i64 x.2.d, .slice xa x.2.l.length xc] 58))
      go_upto_region 4 with (fail)
      clear g0 g1 g2 g3 g4 g5 g6 hbg
      generalize wr.alloc (.cells #[.int .u8 x.2.k.kind, .int .i64 x.2.k.a, .int .i64 x.2.k.b, .int .i64 x.2.k.n, .int .i64 x.2.t, .int .i64 x.2.d, .slice xa x.2.l.length xc] 58) = w3 at *
      generalize wr.heap.size = XB at *
      have c0 : w3.cell? ⟨XB, 0, none⟩ = some (.int .u8 x.2.k.kind) := cell_of_blk HXB.out rfl
      have c1 : w3.cell? ⟨XB, 1, none⟩ = some (.int .i64 x.2.k.a) := cell_of_blk HXB.out rfl
      have c2 : w3.cell? ⟨XB, 2, none⟩ = some (.int .i64 x.2.k.b) := cell_of_blk HXB.out rfl
      have c3 : w3.cell? ⟨XB, 3, none⟩ = some (.int .i64 x.2.k.n) := cell_of_blk HXB.out rfl
      have c4 : w3.cell? ⟨XB, 4, none⟩ = some (.int .i64 x.2.t) := cell_of_blk HXB.out rfl
      have c5 : w3.cell? ⟨XB, 5, none⟩ = some (.int .i64 x.2.d) := cell_of_blk HXB.out rfl
      have c6 : w3.cell? ⟨XB, 6, none⟩ = some (.slice xa x.2.l.length xc) := cell_of_blk HXB.out rfl
      have hbc := cell_lt c0
      go_wp2_with fail
      refine (HC.out _).mono ?_
      rintro e w4 ⟨rfl, hl4⟩
      have HM4 := Lib.hid (more_trans HMO.out hl4.1)
      clear hl4 c0 c1 c2 c3 c4 c5 c6 hbc
      have hlt9 := HLT.out
      go_wp2_with fail
      go_roundw
      case rel => exact ⟨j + 1, by omega, by go_num, Lib.hid (more_trans HMr.out HM4.out)⟩
      case measure => have := HLT.out; simp [intOf]; omega
    · obtain rfl : j = l.length := by omega
      clear hlt hj
      obtain ⟨w3, rfl⟩ : ∃ w3 : World, w3 = wr := ⟨_, rfl⟩
      have HROW := Lib.hid (World.ownsRow_made (base := w3.heap.size) (e := 58) (size := 7) w3 (madeCells #[.int .u8 0, .int .i64 0, .int .i64 0, .int .i64 0, .int .i64 0, .int .i64 0, .slice none 0 0] (l.length * 7)) l.length (Nat.le_refl _) (by unfold maxLen; omega) (by simp [madeCells]))
      have HBM := Lib.hid ((Below.refl w3.heap.size w3).alloc (Nat.le_refl _) (.cells (madeCells #[.int .u8 0, .int .i64 0, .int .i64 0, .int .i64 0, .int .i64 0, .int .i64 0, .slice none 0 0] (l.length * 7)) 58))
      obtain ⟨N, HNN⟩ : ∃ N, Hid (N = w3.heap.size) := ⟨_, Lib.hid rfl⟩
      rw [← HNN.out] at HROW HBM
      go_wp2_with fail
      rw [← HNN.out]
      generalize w3.alloc (.cells (madeCells #[.int .u8 0, .int .i64 0, .int .i64 0, .int .i64 0, .int .i64 0, .int .i64 0, .slice none 0 0] (l.length * 7)) 58) = w4 at *
      go_loopw [7, 29] (fun u i wr => ∃ (j : Nat) (o : List GV), j ≤ l.length ∧ i = .int .i64 j ∧ Hid (Below N w3 wr) ∧ Hid (AllG N wr u o) ∧ Hid (o.map (·.2) = (l.take j).map (·.2)) ∧ Hid (o.length = j) ∧ Hid (∀ p ∈ o, GArg (fun b => u.ownBlock ≠ some b ∧ N ≤ b) wr p)) (fun _ i _ => l.length - (intOf i).toNat)
      case atStart => exact ⟨0, [], Nat.zero_le _, rfl, HBM, Lib.hid ⟨HROW.out, fun p h => by simp at h⟩, Lib.hid (by simp), Lib.hid rfl, Lib.hid (fun p h => by simp at h)⟩
      case round =>
        obtain ⟨j, o, hj, rfl, HB, HO, HE, HOL, HGS⟩ := hrel
        have HBW := Lib.hid (show Below w3.heap.size w3 wr by rw [← HNN.out]; exact HB.out)
        have HNW := Lib.hid (show N ≤ wr.heap.size by rw [HNN.out]; exact HBW.out.size)
        have HMX := Lib.hid (more_trans HMW.out (more_of HBW.out))
        obtain ⟨oa, ocap, rfl, _⟩ := owns_shape HO.out.own
        by_cases hlt : j < l.length
        · skip
          obtain ⟨b, off, rfl, _, hc⟩ := HR.out.atC gC_len hlt
          have g0 := HMX.out.cell (hc 0 (.int .u8 l[j].2.k.kind) rfl)
          have g1 := HMX.out.cell (hc 1 (.int .i64 l[j].2.k.a) rfl)
          have g2 := HMX.out.cell (hc 2 (.int .i64 l[j].2.k.b) rfl)
          have g3 := HMX.out.cell (hc 3 (.int .i64 l[j].2.k.n) rfl)
          have g4 := HMX.out.cell (hc 4 (.int .i64 l[j].2.t) rfl)
          have g5 := HMX.out.cell (hc 5 (.int .i64 l[j].2.d) rfl)
          have g6 := HMX.out.cell (hc 6 (l[j].1) rfl)
          rw [Nat.add_zero] at g0
          clear hc
          have HGA := Lib.hid (HG.out _ (List.getElem_mem hlt))
          have HKO := Lib.hid (HOK.out _ (List.getElem_mem hlt))
          obtain ⟨xa, xc, hxv, _⟩ := HGA.out.1.row.shape
          rw [hxv] at g6
          have HT := Lib.hid (show l.take (j + 1) = l.take j ++ [l[j]] from List.take_succ_eq_append_getElem hlt)
          have HGX := Lib.hid (show gA l[j] = .agg #[.int .u8 l[j].2.k.kind, .int .i64 l[j].2.k.a, .int .i64 l[j].2.k.b, .int .i64 l[j].2.k.n, .int .i64 l[j].2.t, .int .i64 l[j].2.d, .slice xa l[j].2.l.length xc] by unfold gA; rw [hxv])
          clear hxv
          have HLT := Lib.hid hlt
          generalize l[j] = x at *
          have hbg := cell_lt g0
          have HC := Lib.hid (show ∀ W, More w W → Calls Tryz.prog 44 #[.agg #[.int .u8 x.2.k.kind, .int .i64 x.2.k.a, .int .i64 x.2.k.b, .int .i64 x.2.k.n, .int .i64 x.2.t, .int .i64 x.2.d, .slice xa x.2.l.length xc]] W fun e w' => (∃ ya yc, e = .returned (.agg #[.int .u8 x.2.k.kind, .int .i64 x.2.k.a, .int .i64 x.2.k.b, .int .i64 x.2.k.n, .int .i64 x.2.t, .int .i64 x.2.d, .slice ya x.2.l.length yc]) ∧ GArg (fun b => W.heap.size ≤ b) w' (.slice ya x.2.l.length yc, x.2)) ∧ Below W.heap.size W w' from fun W hW => by
            have h1 := clone100_gen x W (HGA.out.1.more hW) (by have := HGA.out.2; unfold maxLen; omega) (by have := HGA.out.2; omega)
            rw [HGX.out] at h1
            exact h1)
          have HMO := Lib.hid (more_alloc wr (.cells #[.int .u8 x.2.k.kind, .int .i64 x.2.k.a, .int .i64 x.2.k.b, .int .i64 x.2.k.n, .int .i64 x.2.t, .int .i64 x.2.d, .slice xa x.2.l.length xc] 58))
          have HXB := Lib.hid (alloc_last wr (.cells #[.int .u8 x.2.k.kind, .int .i64 x.2.k.a, .int .i64 x.2.k.b, .int .i64 x.2.k.n, .int .i64 x.2.t, .int .i64 x.2.d, .slice xa x.2.l.length xc] 58))
          go_upto_region 12 with (fail)
          clear g0 g1 g2 g3 g4 g5 g6 hbg
          generalize wr.alloc (.cells #[.int .u8 x.2.k.kind, .int .i64 x.2.k.a, .int .i64 x.2.k.b, .int .i64 x.2.k.n, .int .i64 x.2.t, .int .i64 x.2.d, .slice xa x.2.l.length xc] 58) = w5 at *
          obtain ⟨XB, HXE⟩ : ∃ XB, Hid (XB = wr.heap.size) := ⟨_, Lib.hid rfl⟩
          rw [← HXE.out] at HXB ⊢
          have c0 : w5.cell? ⟨XB, 0, none⟩ = some (.int .u8 x.2.k.kind) := cell_of_blk HXB.out rfl
          have c1 : w5.cell? ⟨XB, 1, none⟩ = some (.int .i64 x.2.k.a) := cell_of_blk HXB.out rfl
          have c2 : w5.cell? ⟨XB, 2, none⟩ = some (.int .i64 x.2.k.b) := cell_of_blk HXB.out rfl
          have c3 : w5.cell? ⟨XB, 3, none⟩ = some (.int .i64 x.2.k.n) := cell_of_blk HXB.out rfl
          have c4 : w5.cell? ⟨XB, 4, none⟩ = some (.int .i64 x.2.t) := cell_of_blk HXB.out rfl
          have c5 : w5.cell? ⟨XB, 5, none⟩ = some (.int .i64 x.2.d) := cell_of_blk HXB.out rfl
          have c6 : w5.cell? ⟨XB, 6, none⟩ = some (.slice xa x.2.l.length xc) := cell_of_blk HXB.out rfl
          have hbc := cell_lt c0
          go_wp2_with fail
          refine (HC.out _ (more_trans HMX.out HMO.out)).mono ?_
          rintro e w6 ⟨⟨ya, yc, rfl, hga⟩, hb6⟩
          have HM6 := Lib.hid (more_trans HMO.out (more_of hb6))
          have HGA6 := Lib.hid hga
          have HS5 := Lib.hid (show XB ≤ w5.heap.size from Nat.le_of_lt (blk_lt HXB.out))
          clear hga hb6 c0 c1 c2 c3 c4 c5 c6 hbc
          have HOA := Lib.hid ((HO.out.more HM6.out).more (more_alloc w6 (.cells #[.int .u8 x.2.k.kind, .int .i64 x.2.k.a, .int .i64 x.2.k.b, .int .i64 x.2.k.n, .int .i64 x.2.t, .int .i64 x.2.d, .slice ya x.2.l.length yc] 58)))
          have HS6 := Lib.hid (Nat.le_trans HNW.out HM6.out.size)
          have HL9 := Lib.hid (room72 (n := o.length + 1) (by have := HOL.out; have := HLN.out; omega))
          obtain ⟨on, HON⟩ : ∃ on, Hid (o.length = on) := ⟨_, Lib.hid rfl⟩
          rw [HON.out] at HOA HL9 ⊢
          go_wp2_with (at_builtin; refine wpList_append_lies _ rfl _ _ 23 rfl N 58 i0 _ 7 72 Tryz.underlying23 hi0 hz0 hz1 hz2 rfl (by omega) (.slice oa on ocap) on (flatC gC o) rfl (by have h1 := HOA.out.own; rw [HON.out] at h1; exact h1) ⟨w6.heap.size, 0, none⟩ 1 1 [.int .u8 x.2.k.kind, .int .i64 x.2.k.a, .int .i64 x.2.k.b, .int .i64 x.2.k.n, .int .i64 x.2.t, .int .i64 x.2.d, .slice ya x.2.l.length yc] rfl rfl (World.news_of_block (cs := #[.int .u8 x.2.k.kind, .int .i64 x.2.k.a, .int .i64 x.2.k.b, .int .i64 x.2.k.n, .int .i64 x.2.t, .int .i64 x.2.d, .slice ya x.2.l.length yc]) (t := 58) (fr := (0, 0)) (alloc_last _ _)) (by simp [Value.oneCell']) (by omega) HL9.out.1 HL9.out.2 (by rw [World.size_alloc]; exact Nat.le_succ_of_le HS6.out) (w6.heap.size + 1) (by simp) ?_; intro gg cap8 w10 hown8 hgrow8 hat8 _)
          have HGP := Lib.hid (show GArg (fun b => (Value.slice oa on ocap).ownBlock ≠ some b ∧ N ≤ b) (w6.alloc (.cells #[.int .u8 x.2.k.kind, .int .i64 x.2.k.a, .int .i64 x.2.k.b, .int .i64 x.2.k.n, .int .i64 x.2.t, .int .i64 x.2.d, .slice ya x.2.l.length yc] 58)) (.slice ya x.2.l.length yc, x.2) from by
            have h1 : GArg (fun b => (Value.slice oa on ocap).ownBlock ≠ some b ∧ N ≤ b) w6 (.slice ya x.2.l.length yc, x.2) := HGA6.out.mono (fun b hb _ => ⟨fun e => by have h3 := (HO.out.own.lt b (by rw [HON.out]; exact e)).2; have h4 := HXE.out; have h5 : w5.heap.size ≤ b := hb; have h6 := HS5.out; omega, by have h4 := HXE.out; have h5 : w5.heap.size ≤ b := hb; have h6 := HS5.out; have h7 := HNW.out; omega⟩) (fun _ _ _ => rfl)
            exact h1.more (more_alloc _ _))
          have HGS6 := Lib.hid (show ∀ p ∈ o, GArg (fun b => (Value.slice oa on ocap).ownBlock ≠ some b ∧ N ≤ b) (w6.alloc (.cells #[.int .u8 x.2.k.kind, .int .i64 x.2.k.a, .int .i64 x.2.k.b, .int .i64 x.2.k.n, .int .i64 x.2.t, .int .i64 x.2.d, .slice ya x.2.l.length yc] 58)) p from fun p hp => by
            have h1 := HGS.out p hp
            rw [HON.out] at h1
            exact (h1.more HM6.out).more (more_alloc _ _))
          have HV8 := Lib.hid (show ∀ z, (Value.slice (some ⟨gg, 0, none⟩) (on + 1) cap8).ownBlock = some z → (Value.slice oa on ocap).ownBlock = some z ∨ (w6.alloc (.cells #[.int .u8 x.2.k.kind, .int .i64 x.2.k.a, .int .i64 x.2.k.b, .int .i64 x.2.k.n, .int .i64 x.2.t, .int .i64 x.2.d, .slice ya x.2.l.length yc] 58)).heap.size ≤ z from fun z hz => by
            have hz' : gg = z := by simpa [Value.ownBlock] using hz
            subst hz'
            rcases hat8 with h | h
            · exact Or.inl h
            · right; rw [h]; simp)
          have HP10 := Lib.hid (HOA.out.push (p := (.slice ya x.2.l.length yc, x.2)) (HGP.out.mono (fun b hb _ => hb.1) (fun _ _ _ => rfl)) (by rw [HON.out]; exact hown8) hgrow8 HV8.out)
          have HGS10 := Lib.hid (gargs_push HGS6.out HGP.out hgrow8 HV8.out)
          have HB10 := Lib.hid (show Below N w3 w10 from ((HB.out.trans (HM6.out.below.mono HNW.out)).alloc HS6.out _).grown hgrow8 (by rw [World.size_alloc]; exact Nat.le_succ_of_le HS6.out) (fun z hz => (HO.out.own.lt z (by rw [HON.out]; exact hz)).1))
          have HE10 := Lib.hid (show (o ++ [((.slice ya x.2.l.length yc, x.2) : GV)]).map (·.2) = (l.take (j + 1)).map (·.2) by rw [HT.out, List.map_append, List.map_append, HE.out]; rfl)
          have HOL10 := Lib.hid (show (o ++ [((.slice ya x.2.l.length yc, x.2) : GV)]).length = j + 1 by rw [List.length_append, List.length_singleton, HOL.out])
          clear hown8 hgrow8 hat8
          have hlt9 := HLT.out
          go_wp2_with fail
          go_roundw
          case rel => exact ⟨j + 1, _, by omega, by go_num, HB10, HP10, HE10, HOL10, HGS10⟩
          case measure => have := HLT.out; simp [intOf]; omega
        · obtain rfl : j = l.length := by omega
          rw [List.take_of_length_le (Nat.le_refl _)] at HE
          clear hlt hj
          have HAO := Lib.hid (HASC.out.same HE.out)
          have HSH := Lib.hid (show ∀ p ∈ o, ∃ a c, p.1 = .slice a p.2.l.length c from fun p hp => by obtain ⟨x1, x2, x3, _⟩ := (HO.out.ent p hp).row.shape; exact ⟨x1, x2, x3⟩)
          have HSO := Lib.hid (sortG_any _ N wr (by rw [HOL.out]; omega) HAO.out HSH.out HO.out.own)
          go_wp2_with fail
          refine HSO.out.mono ?_
          rintro e w7 ⟨rfl, hg7, ho7⟩
          have HB7 := Lib.hid (HB.out.grown hg7 HNW.out (fun z hz => (HO.out.own.lt z hz).1))
          have HO7 := Lib.hid ho7
          have HG7 := Lib.hid (show ∀ p ∈ o, GArg (fun b => N ≤ b) w7 p from fun p hp => (HGS.out p hp).mono (fun _ hb _ => hb.2) (fun b hb hlt => hg7.block b hlt (fun e => hb.1 e.symm)))
          have HR7 := Lib.hid ((Row.of_owns ho7).mono (S' := anyB) (fun _ _ => trivial) (fun _ _ _ _ h => h))
          have HBW7 := Lib.hid (show Below w3.heap.size w3 w7 by rw [← HNN.out]; exact HB7.out)
          have HM7 := Lib.hid (more_trans HMr.out (more_of HBW7.out))
          have HRB7 := Lib.hid ((HM7.out.block (blk_lt HRB.out)).trans HRB.out)
          clear hg7 ho7 HO HB HSO
          obtain ⟨on, HON⟩ : ∃ on, Hid (o.length = on) := ⟨_, Lib.hid rfl⟩
          rw [HON.out] at HO7 HR7 ⊢
          have hon : on ≤ 96 := by have h1 := HOL.out; have h2 := HLN.out; have h3 := HON.out; omega
          have HON96 := Lib.hid hon
          go_wp2_with fail
          go_loopw [10] (fun i wr => ∃ j : Nat, i = .int .i64 ((j + 1 : Nat) : Int) ∧ Hid (j ≤ on) ∧ Hid (More w7 wr)) (fun i _ => on - (intOf i).toNat)
          case atStart => exact ⟨0, rfl, Lib.hid (Nat.zero_le _), Lib.hid (World.grownBy.refl _ _)⟩
          case round =>
            obtain ⟨j, rfl, HJ, HMy⟩ := hrel
            by_cases hlt : j + 1 < on
            · have i1 : j + 1 < o.length := by rw [HON.out]; exact hlt
              have i2 : j < o.length := by omega
              have hne := HAO.out.ne_next i2 i1
              have HRW := Lib.hid (show Row anyB w7 7 o.length (.slice oa on ocap) (flatC gC o) by rw [HON.out]; exact HR7.out)
              obtain ⟨b, off, hab, _, hc⟩ := HRW.out.atC gC_len (i := j + 1) i1
              cases hab
              have g0 := HMy.out.cell (hc 0 (.int .u8 o[j + 1].2.k.kind) rfl)
              have g1 := HMy.out.cell (hc 1 (.int .i64 o[j + 1].2.k.a) rfl)
              have g2 := HMy.out.cell (hc 2 (.int .i64 o[j + 1].2.k.b) rfl)
              have g3 := HMy.out.cell (hc 3 (.int .i64 o[j + 1].2.k.n) rfl)
              rw [Nat.add_zero] at g0
              clear hc
              obtain ⟨b', off', hab, _, hc⟩ := HRW.out.atC gC_len (i := j) i2
              cases hab
              have e0 := HMy.out.cell (hc 0 (.int .u8 o[j].2.k.kind) rfl)
              have e1 := HMy.out.cell (hc 1 (.int .i64 o[j].2.k.a) rfl)
              have e2 := HMy.out.cell (hc 2 (.int .i64 o[j].2.k.b) rfl)
              have e3 := HMy.out.cell (hc 3 (.int .i64 o[j].2.k.n) rfl)
              rw [Nat.add_zero] at e0
              clear hc
              generalize o[j + 1].2.k = x at *
              generalize o[j].2.k = y at *
              have heq := fun W => run_eqK x y W
              rw [decide_eq_false hne] at heq
              have hwj : IntKind.i64.wrap (j : Int) = j := by rw [IntKind.wrap_i64]; have := HON96.out; omega
              have hbg := cell_lt g0
              have HLT := Lib.hid hlt
              have hjo : j < on := by omega
              clear hne i1 i2
              go_upto_region 18 with (fail)
              go_quiet (fail)
              go_wp2_with fail
              go_roundw
              case rel => exact ⟨j + 1, by go_num, Lib.hid (by have := HLT.out; omega), Lib.hid (more_trans HMy.out (grownBy_drewN wr nq none))⟩
              case measure => have := HLT.out; simp [intOf]; omega
            · have hge : on ≤ j + 1 := by omega
              have HRBy := Lib.hid ((HMy.out.block (blk_lt HRB7.out)).trans HRB7.out)
              have k0 : wr.cell? ⟨RB, 0, none⟩ = some (.slice none 0 0) := cell_of_blk HRBy.out rfl
              have f0 := thaw HRBy.out 0
              have hbk := cell_lt k0
              have HB3 := Lib.hid (show Below w.heap.size w wr from (more_trans HM2.out (more_trans HM7.out HMy.out)).below)
              have HNB := Lib.hid (show RB < N by rw [HNN.out]; exact Nat.lt_of_lt_of_le (blk_lt HRB.out) HMr.out.size)
              have HOM := Lib.hid (fun z hz => (HO7.out.lt z hz).1)
              have h96 : on ≤ 96 := HON96.out
              clear hlt
              go_wp2_with fail
              have c0 : (wr.setCell ⟨RB, 0, none⟩ (.slice oa on ocap)).cell? ⟨RB, 0, none⟩ = some (.slice oa on ocap) := setCell_eq k0
              have HOF := Lib.hid (owns_keep HO7.out (fun z hz => HMy.out.block (HO7.out.lt z hz).2))
              refine bodyPost_ret (v := .tuple #[.agg #[.slice oa on ocap], .int .i64 0]) (by simp [results, Tryz.results14, go_sem, c0]) rfl ⟨⟨_, o, rfl, ?_, HE.out, ?_⟩, ?_⟩
              · rw [HON.out]
                exact (Row.of_owns (owns_keep HOF.out (fun z hz => Below.heap_setCell _ _ _ _ (show z ≠ RB from by have := HOM.out z hz; have := HNB.out; omega)))).mono (fun z hz => by have h1 : N ≤ z := hz; have h2 := HNN.out; have h3 := HMW.out.size; omega) (fun _ _ _ _ h => h)
              · exact fun p hp => ((HG7.out p hp).more HMy.out).mono (fun b hb _ => by have h1 : N ≤ b := hb; have h2 := HNN.out; have h3 := HMW.out.size; omega) (fun b hb _ => Below.heap_setCell _ _ _ _ (show b ≠ RB from by have := HNB.out; have h1 : N ≤ b := hb; omega))
              · exact HB3.out.setCell (p := ⟨RB, 0, none⟩) (show w.heap.size ≤ RB by rw [HRR.out]; exact Nat.le_refl _) _
end Go.Proofs.YtemeppfikpafbaaGreatDoor

/- law17.Set (92), (choice.Set).Keys (93), on choices of all kinds. -/
namespace Go.Proofs.YtemeppfikpafbaaGreatDoor
open Go.RowKit Go.Sort Go.Shelf
/-- A set of choices in memory. -/
structure SetAt (S : Nat → Prop) (w : World) (v : Value) (l : List GV) : Prop where
  row : Row S w 7 l.length v (flatC gC l)
  arg : ∀ p ∈ l, GArg S w p
  ok : ∀ p ∈ l, CgOk p.2
  asc : AscG l
  len : l.length ≤ 96
theorem SetAt.mono {S S' : Nat → Prop} {w w' : World} {v : Value} {l : List GV} (h : SetAt S w v l) (hS : ∀ b, S b → b < w.heap.size → S' b) (hw : ∀ b, S b → b < w.heap.size → w'.heap[b]? = w.heap[b]?) : SetAt S' w' v l :=
  ⟨(h.row.lt (by omega)).mono (fun b hb => hS b hb.1 hb.2) (fun b off x hb hc => by
    rw [← hc]; exact World.cell?_of_block (w := w) (a := ⟨b, off, none⟩) (hw b hb.1 hb.2)), fun p hp => (h.arg p hp).mono hS hw, h.ok, h.asc, h.len⟩
theorem SetAt.more {S : Nat → Prop} {w w' : World} {v : Value} {l : List GV} (h : SetAt S w v l) (hm : More w w') : SetAt S w' v l := h.mono (fun _ hb _ => hb) (fun _ _ hl => hm.block hl)
theorem SetAt.any {S : Nat → Prop} {w : World} {v : Value} {l : List GV} (h : SetAt S w v l) : SetAt anyB w v l := h.mono (fun _ _ _ => trivial) (fun _ _ _ => rfl)
theorem CgOk.args {x : Cg} (h : CgOk x) : x.l.length ≤ 4 := by have h1 := h.l; split at h1 <;> omega
set_option maxRecDepth 100000 in
set_option maxHeartbeats 4000000 in
theorem set92_gen (l : List GV) (v : Value) (w : World) (hs : SetAt anyB w v l) :
    Calls Tryz.prog 17 #[v] w fun e w' => (∃ v' l', e = .returned (.tuple #[.agg #[v'], .bool true]) ∧ SetAt (fun b => w.heap.size ≤ b) w' v' l' ∧ l'.map (·.2) = l.map (·.2)) ∧ Below w.heap.size w w' := by
  obtain ⟨a, cap, rfl, _⟩ := hs.row.shape
  have HC := Lib.hid (fun W (hW : More w W) => new86_gen l _ W hs.len (hs.row.below hW.below) (fun p hp => ⟨(hs.arg p hp).more hW, (hs.ok p hp).args⟩) hs.ok hs.asc)
  have HS := Lib.hid hs; clear hs
  have HRB := Lib.hid (alloc_last w (.cells #[.slice none 0 0] 33))
  have HM1 := Lib.hid (more_alloc w (.cells #[.slice none 0 0] 33))
  go_enter Tryz.func17, Tryz.ntmps17
  go_upto_region 1 with (fail)
  generalize w.alloc (.cells #[.slice none 0 0] 33) = w1 at *
  obtain ⟨RB, HRE⟩ : ∃ RB, Hid (RB = w.heap.size) := ⟨_, Lib.hid rfl⟩
  rw [← HRE.out] at HRB ⊢
  go_wp2_with fail
  refine (HC.out _ HM1.out).mono ?_
  rintro e w2 ⟨⟨v', l', rfl, hrow, he, harg⟩, hb⟩
  obtain ⟨va, vc, rfl, _⟩ := hrow.shape
  have HROW := Lib.hid hrow; clear hrow
  have HE := Lib.hid he; clear he
  have HARG := Lib.hid harg; clear harg
  have HM2 := Lib.hid (more_trans HM1.out (more_of hb))
  have HRB2 := Lib.hid (((more_of hb).block (blk_lt HRB.out)).trans HRB.out)
  clear hb
  have HS2 := Lib.hid (show SetAt (fun b => w1.heap.size ≤ b) w2 (.slice va l'.length vc) l' from ⟨HROW.out, HARG.out, fun p hp => by
    have h1 : p.2 ∈ l'.map (·.2) := List.mem_map.2 ⟨p, hp, rfl⟩
    rw [HE.out] at h1
    obtain ⟨q, hq, e⟩ := List.mem_map.1 h1
    rw [← e]; exact HS.out.ok q hq, HS.out.asc.same HE.out, by have h1 := congrArg List.length HE.out; simp only [List.length_map] at h1; rw [h1]; exact HS.out.len⟩)
  generalize hln : l'.length = ln at *
  have HLN := Lib.hid hln; clear hln
  have HM3 := Lib.hid (more_alloc w2 (.cells #[.slice va ln vc] 33))
  have HRB3 := Lib.hid ((HM3.out.block (blk_lt HRB2.out)).trans HRB2.out)
  have HPB := Lib.hid (alloc_last w2 (.cells #[.slice va ln vc] 33))
  go_upto_region 2 with (fail)
  generalize w2.alloc (.cells #[.slice va ln vc] 33) = w3 at *
  generalize w2.heap.size = PB at *
  have c0 : w3.cell? ⟨PB, 0, none⟩ = some (.slice va ln vc) := cell_of_blk HPB.out rfl
  have z0 : w3.cell? ⟨RB, 0, none⟩ = some (.slice none 0 0) := cell_of_blk HRB3.out rfl
  have f0 := thaw HRB3.out 0
  have hbc := cell_lt c0
  have hbz := cell_lt z0
  go_wp2_with fail
  have HMF := Lib.hid (show Below w.heap.size w (w3.setCell ⟨RB, 0, none⟩ (.slice va ln vc)) from ((more_trans HM2.out HM3.out).below).setCell (p := ⟨RB, 0, none⟩) (by show w.heap.size ≤ RB; rw [HRE.out]; exact Nat.le_refl _) _)
  have k0 : (w3.setCell ⟨RB, 0, none⟩ (.slice va ln vc)).cell? ⟨RB, 0, none⟩ = some (.slice va ln vc) := setCell_eq z0
  refine bodyPost_ret (v := .tuple #[.agg #[.slice va ln vc], .bool true]) (by simp [results, Tryz.results17, go_sem, k0]) rfl ⟨⟨_, l', rfl, ?_, HE.out⟩, HMF.out⟩
  exact (HS2.out.more HM3.out).mono (fun b hb _ => Nat.le_trans HM1.out.size hb) (fun b hb _ => Below.heap_setCell _ _ _ _ (show b ≠ RB from by have h1 : w1.heap.size ≤ b := hb; have h2 := blk_lt HRB.out; omega))
theorem infoK : (Tryz.prog.info? 53).map (fun i => (i.zero, i.size, i.bytes)) = some (some (.agg #[.int .u8 0, .int .i64 0, .int .i64 0, .int .i64 0]), 4, 32) := by kernel_rfl
theorem run_make27 (n : Nat) (hn : n < 4294967296) (w : World) :
    (Instr.makeSlice 24 (.int .i64 0) (.int .i64 (n : Int))).run Tryz.prog w = .ok (.slice (some ⟨w.heap.size, 0, none⟩) 0 n) (w.alloc (.cells (madeCells #[.int .u8 0, .int .i64 0, .int .i64 0, .int .i64 0] (n * 4)) 53)) := by
  obtain ⟨i, hi, hzz⟩ := Option.map_eq_some_iff.1 infoK
  simp only [Prod.mk.injEq] at hzz
  obtain ⟨hz, hs, hb⟩ := hzz
  have hr := run_make (P := Tryz.prog) w 24 53 i _ Tryz.underlying24 hi hz .i64 .i64 0 n (by omega) (by omega) (by rw [hb]; omega) (by omega)
  simpa [Int.toNat_natCast, hs, Value.cells] using hr
theorem room32 {n : Nat} (h : n ≤ 1003) : n ≤ maxLen ∧ n * 32 ≤ 140737488355328 := by unfold maxLen; omega
def keysG (l : List GV) : List K4 := l.map (·.2.k)
set_option maxRecDepth 100000 in
set_option maxHeartbeats 4000000 in
theorem keys93_gen (l : List GV) (v : Value) (w : World) (hs : SetAt anyB w v l) :
    Calls Tryz.prog 18 #[.agg #[v]] w fun e w' => (∃ v', e = .returned v' ∧ w'.ownsRow w.heap.size 53 4 v' (keysG l).length (flatC kC (keysG l))) ∧ Below w.heap.size w w' := by
  obtain ⟨a, cap, rfl, _⟩ := hs.row.shape
  have HS := Lib.hid hs; clear hs
  obtain ⟨i0, hi0, hz0, hz1, hz2⟩ := info_parts infoK
  have HLN := Lib.hid HS.out.len
  obtain ⟨ln, HLE⟩ : ∃ ln, Hid (l.length = ln) := ⟨_, Lib.hid rfl⟩
  rw [HLE.out] at HLN ⊢
  have hmk := run_make27 ln (by have := HLN.out; omega)
  have HSB := Lib.hid (alloc_last w (.cells #[.slice a ln cap] 33))
  have HM1 := Lib.hid (more_alloc w (.cells #[.slice a ln cap] 33))
  obtain ⟨N, HN⟩ : ∃ N, Hid (N = w.heap.size) := ⟨_, Lib.hid rfl⟩
  rw [← HN.out]
  go_enter Tryz.func18, Tryz.ntmps18
  go_upto_region 1 with (fail)
  rw [← HN.out]
  rw [← HN.out] at HSB
  generalize w.alloc (.cells #[.slice a ln cap] 33) = w1 at *
  have c0 : w1.cell? ⟨N, 0, none⟩ = some (.slice a ln cap) := cell_of_blk HSB.out rfl
  have hbc := cell_lt c0
  have HROW := Lib.hid (World.ownsRow_made (base := w1.heap.size) (e := 53) (size := 4) w1 (madeCells #[.int .u8 0, .int .i64 0, .int .i64 0, .int .i64 0] (ln * 4)) ln (Nat.le_refl _) (by have := HLN.out; unfold maxLen; omega) (by simp [madeCells]))
  have HBM := Lib.hid ((Below.refl w1.heap.size w1).alloc (Nat.le_refl _) (.cells (madeCells #[.int .u8 0, .int .i64 0, .int .i64 0, .int .i64 0] (ln * 4)) 53))
  go_upto_region 2 with (fail)
  obtain ⟨M, HMM⟩ : ∃ M, Hid (M = w1.heap.size) := ⟨_, Lib.hid rfl⟩
  rw [← HMM.out] at HROW HBM ⊢
  have HSB2 := Lib.hid ((HBM.out.block N (show N < M by rw [HMM.out]; exact blk_lt HSB.out)).trans HSB.out)
  generalize w1.alloc (.cells (madeCells #[.int .u8 0, .int .i64 0, .int .i64 0, .int .i64 0] (ln * 4)) 53) = w2 at *
  clear c0 hbc
  have c0 : w2.cell? ⟨N, 0, none⟩ = some (.slice a ln cap) := cell_of_blk HSB2.out rfl
  have hbc := cell_lt c0
  go_wp2_with fail
  clear c0 hbc
  go_loopw [3, 13] (fun u i wr => ∃ j : Nat, j ≤ ln ∧ i = .int .i64 j ∧ Hid (Below M w1 wr) ∧ Hid (wr.ownsRow M 53 4 u j (flatC kC (keysG (l.take j))))) (fun _ i _ => ln - (intOf i).toNat)
  case atStart => exact ⟨0, Nat.zero_le _, rfl, HBM, HROW⟩
  case round =>
    obtain ⟨j, hj, rfl, HB, HO⟩ := hrel
    have HMW := Lib.hid (show More w1 wr from more_of (by rw [← HMM.out]; exact HB.out))
    have HMX := Lib.hid (more_trans HM1.out HMW.out)
    have HNW := Lib.hid (show M ≤ wr.heap.size by rw [HMM.out]; exact HMW.out.size)
    obtain ⟨oa, oc, rfl, _⟩ := owns_shape HO.out
    by_cases hlt : j < ln
    · have hjl : j < l.length := by rw [HLE.out]; exact hlt
      have hrw := HS.out.row
      obtain ⟨b, off, rfl, _, hc⟩ := hrw.atC gC_len hjl
      have g0 := HMX.out.cell (hc 0 (.int .u8 l[j].2.k.kind) rfl)
      have g1 := HMX.out.cell (hc 1 (.int .i64 l[j].2.k.a) rfl)
      have g2 := HMX.out.cell (hc 2 (.int .i64 l[j].2.k.b) rfl)
      have g3 := HMX.out.cell (hc 3 (.int .i64 l[j].2.k.n) rfl)
      have g4 := HMX.out.cell (hc 4 (.int .i64 l[j].2.t) rfl)
      have g5 := HMX.out.cell (hc 5 (.int .i64 l[j].2.d) rfl)
      have g6 := HMX.out.cell (hc 6 l[j].1 rfl)
      rw [Nat.add_zero] at g0
      clear hc hrw
      obtain ⟨xa, xc, hxv, _⟩ := (HS.out.arg _ (List.getElem_mem hjl)).row.shape
      rw [hxv] at g6
      clear hxv
      have HT := Lib.hid (show keysG (l.take (j + 1)) = keysG (l.take j) ++ [l[j].2.k] by unfold keysG; rw [List.take_succ_eq_append_getElem hjl, List.map_append]; rfl)
      have HLT := Lib.hid hlt
      generalize l[j] = x at *
      clear hjl
      have hbg := cell_lt g0
      have HMO := Lib.hid (more_alloc wr (.cells #[.int .u8 x.2.k.kind, .int .i64 x.2.k.a, .int .i64 x.2.k.b, .int .i64 x.2.k.n, .int .i64 x.2.t, .int .i64 x.2.d, .slice xa x.2.l.length xc] 58))
      have HXB := Lib.hid (alloc_last wr (.cells #[.int .u8 x.2.k.kind, .int .i64 x.2.k.a, .int .i64 x.2.k.b, .int .i64 x.2.k.n, .int .i64 x.2.t, .int .i64 x.2.d, .slice xa x.2.l.length xc] 58))
      go_upto_region 5 with (fail)
      clear g0 g1 g2 g3 g4 g5 g6 hbg
      generalize wr.alloc (.cells #[.int .u8 x.2.k.kind, .int .i64 x.2.k.a, .int .i64 x.2.k.b, .int .i64 x.2.k.n, .int .i64 x.2.t, .int .i64 x.2.d, .slice xa x.2.l.length xc] 58) = w5 at *
      obtain ⟨XB, HXE⟩ : ∃ XB, Hid (XB = wr.heap.size) := ⟨_, Lib.hid rfl⟩
      rw [← HXE.out] at HXB ⊢
      have c0 : w5.cell? ⟨XB, 0, none⟩ = some (.int .u8 x.2.k.kind) := cell_of_blk HXB.out rfl
      have c1 : w5.cell? ⟨XB, 1, none⟩ = some (.int .i64 x.2.k.a) := cell_of_blk HXB.out rfl
      have c2 : w5.cell? ⟨XB, 2, none⟩ = some (.int .i64 x.2.k.b) := cell_of_blk HXB.out rfl
      have c3 : w5.cell? ⟨XB, 3, none⟩ = some (.int .i64 x.2.k.n) := cell_of_blk HXB.out rfl
      have hbc := cell_lt c0
      have HO5 := Lib.hid (owns_keep HO.out (fun z hz => HMO.out.block (HO.out.lt z hz).2))
      have HS5 := Lib.hid (show M ≤ w5.heap.size from Nat.le_trans HNW.out HMO.out.size)
      have HB5 := Lib.hid (show Below M w1 w5 from HB.out.trans (HMO.out.below.mono HNW.out))
      have hlt9 := HLT.out
      have hln9 := HLN.out
      have HL9 := Lib.hid (room32 (n := j + 1) (by have := HLN.out; omega))
      go_wp2_with (at_builtin; refine wpList_append_own _ rfl _ _ 24 rfl M 53 i0 _ 4 32 Tryz.underlying24 hi0 hz0 hz1 hz2 rfl (by omega) (.slice oa j oc) j (flatC kC (keysG (l.take j))) rfl (owns_keep HO5.out (fun z hz => Below.heap_alloc w5 _ _ (HO5.out.lt z hz).2)) ⟨w5.heap.size, 0, none⟩ 1 1 [.int .u8 x.2.k.kind, .int .i64 x.2.k.a, .int .i64 x.2.k.b, .int .i64 x.2.k.n] rfl rfl (World.news_of_block (cs := #[.int .u8 x.2.k.kind, .int .i64 x.2.k.a, .int .i64 x.2.k.b, .int .i64 x.2.k.n]) (t := 53) (fr := (0, 0)) (alloc_last _ _)) (by simp [Value.oneCell']) HL9.out.1 HL9.out.2 (by rw [World.size_alloc]; exact Nat.le_succ_of_le HS5.out) ?_; intro v8 w8 hown8 hgrow8 _)
      have HB8 := Lib.hid ((HB5.out.alloc HS5.out _).grown hgrow8 (by rw [World.size_alloc]; exact Nat.le_succ_of_le HS5.out) (fun z hz => (HO5.out.lt z hz).1))
      have HO8 := Lib.hid (show w8.ownsRow M 53 4 v8 (j + 1) (flatC kC (keysG (l.take (j + 1)))) by rw [HT.out, flatC_push]; exact hown8)
      clear hown8 hgrow8 c0 c1 c2 c3 hbc
      go_wp2_with fail
      go_roundw
      case rel => exact ⟨j + 1, by omega, by go_num, HB8, HO8⟩
      case measure => have := HLT.out; simp [intOf]; omega
    · obtain rfl : j = ln := by omega
      rw [List.take_of_length_le (by rw [HLE.out]; exact Nat.le_refl _)] at HO
      have HLK := Lib.hid (show (keysG l).length = j by unfold keysG; rw [List.length_map, HLE.out])
      go_wp2_with fail
      go_ret
      refine ⟨⟨_, rfl, ?_⟩, ?_⟩
      · rw [HLK.out]
        exact owns_base HO.out (by rw [HN.out, HMM.out]; exact HM1.out.size)
      · rw [HN.out]; exact HMX.out.below
end Go.Proofs.YtemeppfikpafbaaGreatDoor

