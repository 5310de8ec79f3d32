/- The walk of CachePlays (9). -/
import Derived.Test.YtemeppfikpafbaaPut2B
import Derived.Test.YtemeppfikpafbaaGet2W
import Derived.Test.YtemeppfikpafbaaRefC
import Derived.Test.YtemeppfikpafbaaOpenO
import Derived.Test.YtemeppfikpafbaaAwkC2
import Derived.Deep.DeepCutAuto
namespace Go.Proofs.Ytemeppfikpafbaa
open Go.RowKit
theorem rowM {w : World} {B n cap : Nat} {a : Option Addr} {l : List M3} (h : w.ownsRow B 54 3 (.slice a n cap) n (flatC mC l)) : Row anyB w 3 l.length (.slice a n cap) (flatC mC l) := by
  have e : n = l.length := by
    have := h.1
    rw [flatC_len mC_len] at this; omega
  rw [← e]
  exact (Row.of_owns h).mono (fun _ _ => trivial) (fun _ _ _ _ h => h)
theorem rowK {w : World} {B n cap : Nat} {a : Option Addr} {l : List K4} (h : w.ownsRow B 48 4 (.slice a n cap) n (flatC kC l)) : Row anyB w 4 l.length (.slice a n cap) (flatC kC l) := by
  have e : n = l.length := by
    have := h.1
    rw [flatC_len kC_len] at this; omega
  rw [← e]
  exact (Row.of_owns h).mono (fun _ _ => trivial) (fun _ _ _ _ h => h)
/-- The cache behind a Put. -/
def PlayQ (CB : Nat) (lim hits : Int) (L : List (RE × Bool)) (cv : Value) (y : RE) (t : Bool) (w6 w' : World) : Prop :=
  ∃ cv' raw', CState S1 w' CB lim hits ((limE lim (L ++ [(y, t)])).map entR) w'.heap.size cv' raw' ∧ (∀ z, cv'.ownBlock = some z → cv.ownBlock = some z ∨ w6.heap.size ≤ z) ∧ Below CB w6 w' ∧ ∀ b, b < w6.heap.size → b ≠ CB → cv.ownBlock ≠ some b → w'.heap[b]? = w6.heap[b]?
theorem put_plays (CB : Nat) (lim hits : Int) (L : List (RE × Bool)) (M : Nat) (cv : Value) (raw : List RawE) (y : RE) (t : Bool) (w6 W : World) (sa ma ka : Option Addr) (sc mc kc : Nat)
    (hC6 : CState S1 w6 CB lim hits (L.map entR) M cv raw) (hM : M ≤ w6.heap.size) (hlim : (L.length : Int) ≤ lim) (hL : L.length ≤ 100) (hy : y.Ok) (hm : More w6 W)
    (hs : Row (fun x => w6.heap.size ≤ x) W 7 (setCh y.c).length (.slice sa (setCh y.c).length sc) (flatC chC (setCh y.c)))
    (hl : Row anyB W 3 ((pick (ord16 t) y.h).map msgI).length (.slice ma (pick (ord16 t) y.h).length mc) (flatC mC ((pick (ord16 t) y.h).map msgI))) (hn : NilA (.slice ma (pick (ord16 t) y.h).length mc))
    (hk : Row anyB W 4 ((pick (ord16 t) y.u).map keyI).length (.slice ka (pick (ord16 t) y.u).length kc) (flatC kC ((pick (ord16 t) y.u).map keyI))) :
    Calls Try.prog 37 #[.pointer (some ⟨CB, 0, none⟩), .agg #[.slice sa (setCh y.c).length sc], .slice ma (pick (ord16 t) y.h).length mc, .slice ka (pick (ord16 t) y.u).length kc, .bool y.v] W fun e w' => e = .returned (.int .i64 0) ∧ PlayQ CB lim hits L cv y t w6 w' := by
  have hCB : CB < w6.heap.size := blk_lt hC6.blk
  refine (put2_bits S1 CB lim hits (L.map entR) M cv raw y.c y.h y.u t t _ _ _ y.v W (hC6.below hm.below) (Nat.le_trans hM hm.size) (fun _ _ => trivial) (hs.mono (fun x hx => ⟨Nat.le_trans hM hx, trivial⟩) (fun _ _ _ _ h => h)) hl hn hk (by rw [List.length_map]; exact hlim) (by rw [List.length_map]; exact hL)).mono ?_
  intro e w' hr
  obtain ⟨rfl, cv', raw', hc, ho⟩ := hr.yes ((putok_bits hy.u t t).2 hy.s)
  rw [ent_bits, show entB y.c y.h y.u t y.v = entR (y, t) from rfl, show [entR (y, t)] = [(y, t)].map entR from rfl, ← List.map_append, limE_map] at hc
  refine ⟨rfl, cv', raw', hc, fun z hz => (ho z hz).imp id (fun h => Nat.le_trans hm.size h), (hm.below.mono (Nat.le_of_lt hCB)).trans hr.below, fun b hb h1 h2 => ?_⟩
  exact (hr.other b (Nat.lt_of_lt_of_le hb hm.size) h1 h2).trans (hm.block hb)
/-- The cache behind a Get. -/
def GetQ (CB : Nat) (lim : Int) (hits : Nat) (L : List (RE × Bool)) (M : Nat) (cv : Value) (raw : List RawE) (q : Bool) (w6 w' : World) : Prop :=
  CState S1 w' CB lim (if q = true then ((hits + 1 : Nat) : Int) else hits) (L.map entR) M cv raw ∧ Below CB w6 w' ∧ w6.heap.size ≤ w'.heap.size ∧ ∀ b, b < w6.heap.size → b ≠ CB → w'.heap[b]? = w6.heap[b]?
theorem get_plays (CB : Nat) (lim : Int) (hits : Nat) (L : List (RE × Bool)) (M : Nat) (cv : Value) (raw : List RawE) (a h : Nat) (t : Bool) (w6 W : World) (sa ma : Option Addr) (sc mc : Nat)
    (hC6 : CState S1 w6 CB lim hits (L.map entR) M cv raw) (hL : L.length ≤ 100) (hh : hits ≤ 1000) (hok : ∀ p ∈ L, p.1.Ok) (ha : a < 65536) (hk : h < 65536) (hm : More w6 W)
    (hs : Row (fun x => w6.heap.size ≤ x) W 7 (setCh a).length (.slice sa (setCh a).length sc) (flatC chC (setCh a)))
    (hl : Row anyB W 3 ((pick (ord16 t) h).map msgI).length (.slice ma (pick (ord16 t) h).length mc) (flatC mC ((pick (ord16 t) h).map msgI))) (hn : NilA (.slice ma (pick (ord16 t) h).length mc)) :
    Calls Try.prog 42 #[.pointer (some ⟨CB, 0, none⟩), .agg #[.slice sa (setCh a).length sc], .slice ma (pick (ord16 t) h).length mc] W fun e w' => e = .returned (.tuple #[.bool (ansR (refGet (L.map (·.1)) a h)).1, .bool (ansR (refGet (L.map (·.1)) a h)).2]) ∧ GetQ CB lim hits L M cv raw (ansR (refGet (L.map (·.1)) a h)).2 w6 w' := by
  have hCB : CB < w6.heap.size := blk_lt hC6.blk
  obtain ⟨g1, g2⟩ := get_same L hok ha hk (hits : Int)
  have := get2_bits S1 CB lim hits (L.map entR) M cv raw a h t _ _ W (hC6.below hm.below) (hs.mono (fun _ _ => trivial) (fun _ _ _ _ h => h)) hl hn (by rw [List.length_map]; omega) (by omega)
  rw [g1, g2] at this
  refine this.mono ?_
  rintro e w' ⟨⟨rfl, hc⟩, hb, hf⟩
  refine ⟨rfl, ?_, (hm.below.mono (Nat.le_of_lt hCB)).trans hb, Nat.le_trans hm.size hb.size, fun b hb' h1 => (hf b (Nat.lt_of_lt_of_le hb' hm.size) h1).trans (hm.block hb')⟩
  rw [show ((hits + 1 : Nat) : Int) = (hits : Int) + 1 by omega]
  exact hc
/-- What the law's loop keeps. -/
def PlayI (CB : Nat) (lim : Int) (hits : Nat) (L : List (RE × Bool)) (a : Option Addr) (cap : Nat) (wr : World) : Prop :=
  ∃ M cv raw, CState S1 wr CB lim hits (L.map entR) M cv raw ∧ M ≤ wr.heap.size ∧ Row (fun b => b ≠ CB ∧ cv.ownBlock ≠ some b) wr 4 L.length (.slice a L.length cap) (flatC eC (L.map (·.1))) ∧ NilA (.slice a L.length cap)
theorem row_frame {S S' : Nat → Prop} {w w' : World} {n : Nat} {v : Value} {xs : List Value} (h : Row S w 4 n v xs) (hS : ∀ b, S b → b < w.heap.size → S' b) (hw : ∀ b, S b → b < w.heap.size → w'.heap[b]? = w.heap[b]?) : Row S' w' 4 n v xs :=
  (h.lt (by omega)).mono (fun b hb => hS b hb.1 hb.2) (fun b off u hb hc => by
    rw [← hc]
    exact World.cell?_of_block (w := w) (a := ⟨b, off, none⟩) (hw b hb.1 hb.2))
set_option maxRecDepth 100000 in
set_option maxHeartbeats 16000000 in
theorem cachePlays_walk (ops : List OpP) (v0 : Value) (m0 : Nat) (w : World) (hok : ∀ x ∈ ops, x.Ok) (hol : ops.length ≤ maxLen) (hrow : Row anyB w 6 ops.length v0 (flatC oC ops)) : Calls Try.prog 9 #[v0, .int .u8 m0] w fun e w' => e = .returned (.bool true) ∧ Below w.heap.size w w' := by
  obtain ⟨oa, oc, rfl, _⟩ := hrow.shape
  have HROW := Lib.hid hrow; clear hrow
  have HOK := Lib.hid hok; clear hok
  have hol' : ops.length ≤ 9223372036854775807 := by unfold maxLen at hol; omega
  clear hol
  have HAW := Lib.hid (fun W => awakeC_any W)
  obtain ⟨m, hmm⟩ : ∃ m, m0 % 12 = m := ⟨_, rfl⟩
  have hr2 : ((m0 : Int).tmod 12) = (m : Int) := by rw [Int.tmod_eq_emod_of_nonneg (Int.natCast_nonneg _)]; omega
  have hm12 : m < 12 := by omega
  have HNEW := Lib.hid (show ∀ W, Calls Try.prog 36 #[.int .i64 (m : Int)] W fun e w' => e = .returned (.pointer (some ⟨W.heap.size, 0, none⟩)) ∧ w' = W.alloc (.cells #[.int .i64 (m : Int), .slice none 0 0, .int .i64 0] 146) from fun W => by
    have := newCache_any (m : Int) W
    rw [show max 0 (m : Int) = (m : Int) by omega] at this
    exact this)
  clear hmm
  go_enter Try.func9, Try.ntmps9
  go_wp2_with fail
  refine (HAW.out _).mono ?_
  rintro e w0 ⟨rfl, hb1⟩
  have HB0 := Lib.hid hb1
  clear hb1 HAW
  go_wp2_with fail
  refine (HNEW.out _).mono ?_
  rintro e w1 ⟨rfl, hw1⟩
  obtain ⟨CB, HCB⟩ : ∃ CB, Hid (CB = w0.heap.size) := ⟨_, Lib.hid rfl⟩
  have HI1 := Lib.hid (show PlayI CB (m : Int) 0 [] none 0 w1 from ⟨CB + 1, .slice none 0 0, [], by rw [hw1, HCB.out]; exact CState.start _ _ _, by rw [hw1, World.size_alloc, HCB.out]; exact Nat.le_refl _, Row.nil _ _ _ _ _, nil_none⟩)
  have HB1 := Lib.hid (show Below CB w0 w1 by rw [hw1, HCB.out]; exact (Below.refl _ _).alloc (Nat.le_refl _) _)
  rw [← HCB.out]
  clear hw1
  have HWW := Lib.hid (show ∀ W, Below CB w0 W → More w W from fun W h => more_trans (more_of HB0.out) (show More w0 W from by rw [HCB.out] at h; exact more_of h))
  go_wp2_with fail
  go_loopw [6, 7, 23] (fun sl sh i wr => ∃ (j hits : Nat) (L : List (RE × Bool)) (a : Option Addr) (cap : Nat), j ≤ ops.length ∧ j ≤ 60 ∧ hits ≤ j ∧ i = .int .i64 j ∧ sh = .int .i64 hits ∧ sl = .slice a L.length cap ∧ Hid (∀ p ∈ L, p.1.Ok) ∧ Hid (L.length ≤ m) ∧ Hid (Below CB w0 wr) ∧ Hid (PlayI CB m hits L a cap wr)) (fun _ _ i _ => ops.length - (intOf i).toNat)
  case atStart => exact ⟨0, 0, [], none, 0, Nat.zero_le _, Nat.zero_le _, Nat.le_refl _, rfl, rfl, rfl, Lib.hid (fun p h => by simp at h), Lib.hid (Nat.zero_le _), HB1, HI1⟩
  case round =>
    obtain ⟨j, hits, L, a, cap, hj, hj60, hhj, rfl, rfl, rfl, HLO, HLM, HB, HI⟩ := hrel
    by_cases hlt : j < ops.length
    · obtain ⟨M, cv, raw, hC, hM, hR, hN⟩ := HI.out
      have HC := Lib.hid hC
      have HM := Lib.hid hM
      have HR := Lib.hid hR
      have HN := Lib.hid hN
      clear hC hM hR hN HI
      have HMW := Lib.hid (HWW.out _ HB.out)
      obtain ⟨b, off, rfl, _, hc⟩ := HROW.out.atC oC_len hlt
      have g0 := HMW.out.cell (hc 0 (.int .u8 ops[j].d) rfl)
      have g1 := HMW.out.cell (hc 1 (.int .u16 ops[j].c) rfl)
      have g2 := HMW.out.cell (hc 2 (.int .u16 ops[j].h) rfl)
      have g3 := HMW.out.cell (hc 3 (.int .u16 ops[j].k) rfl)
      have g4 := HMW.out.cell (hc 4 (.bool ops[j].v) rfl)
      have g5 := HMW.out.cell (hc 5 (.bool ops[j].t) rfl)
      rw [Nat.add_zero] at g0
      clear hc
      have HX := Lib.hid (HOK.out _ (List.getElem_mem hlt))
      generalize ops[j] = x at *
      have hbg := cell_lt g0
      have HXA := Lib.hid (alloc_last wr (.cells #[.int .u8 x.d, .int .u16 x.c, .int .u16 x.h, .int .u16 x.k, .bool x.v, .bool x.t] 66))
      have HM5 := Lib.hid (more_alloc wr (.cells #[.int .u8 x.d, .int .u16 x.c, .int .u16 x.h, .int .u16 x.k, .bool x.v, .bool x.t] 66))
      have hlt' := hlt
      go_upto_region 9 with (fail)
      clear g0 g1 g2 g3 g4 g5 hbg
      obtain ⟨XA, HXE⟩ : ∃ XA, Hid (XA = wr.heap.size) := ⟨_, Lib.hid rfl⟩
      rw [← HXE.out] at HXA ⊢
      generalize wr.alloc (.cells #[.int .u8 x.d, .int .u16 x.c, .int .u16 x.h, .int .u16 x.k, .bool x.v, .bool x.t] 66) = w5 at *
      by_cases h60 : j = 60
      · subst h60
        go_wp2_with fail
        go_ret
        exact ⟨rfl, (more_trans HMW.out HM5.out).below⟩
      have hne60 : ((j : Int) == 60) = false := by simp; omega
      have hj1 : j + 1 ≤ 60 := by omega
      have hd3 : ((x.d : Int).tmod 3) = ((x.d % 3 : Nat) : Int) := by rw [Int.tmod_eq_emod_of_nonneg (Int.natCast_nonneg _)]; omega
      have a0 : w5.cell? ⟨XA, 0, none⟩ = some (.int .u8 x.d) := cell_of_blk HXA.out rfl
      have a1 : w5.cell? ⟨XA, 1, none⟩ = some (.int .u16 x.c) := cell_of_blk HXA.out rfl
      have a2 : w5.cell? ⟨XA, 2, none⟩ = some (.int .u16 x.h) := cell_of_blk HXA.out rfl
      have a3 : w5.cell? ⟨XA, 3, none⟩ = some (.int .u16 x.k) := cell_of_blk HXA.out rfl
      have a4 : w5.cell? ⟨XA, 4, none⟩ = some (.bool x.v) := cell_of_blk HXA.out rfl
      have a5 : w5.cell? ⟨XA, 5, none⟩ = some (.bool x.t) := cell_of_blk HXA.out rfl
      have hxa := cell_lt a0
      clear h60
      obtain ⟨d3, hd⟩ : ∃ d3, x.d % 3 = d3 := ⟨_, rfl⟩
      rw [hd] at hd3
      have hd4 : d3 < 3 := by omega
      clear hd
      have HC5 := Lib.hid (HC.out.below HM5.out.below)
      have HLN := Lib.hid (show L.length ≤ 100 by have := HLM.out; omega)
      by_cases hd0 : d3 = 0
      · -- Put
        subst hd0
        have hand := and_bits HX.out.k HX.out.c
        obtain ⟨u, hu⟩ : ∃ u, x.k &&& x.c = u := ⟨_, rfl⟩
        have HUS := Lib.hid (show u &&& x.c = u by rw [← hu, Nat.and_assoc, Nat.and_self])
        have HUL := Lib.hid (show u < 65536 by rw [← hu]; exact Nat.lt_of_le_of_lt Nat.and_le_left HX.out.k)
        rw [hu] at hand
        clear hu
        obtain ⟨y, hy⟩ : ∃ y : RE, y = ⟨x.c, x.h, u, x.v⟩ := ⟨_, rfl⟩
        have HY := Lib.hid (show y.Ok by rw [hy]; exact ⟨HX.out.c, HX.out.h, HUL.out, HUS.out⟩)
        have HXE6 := Lib.hid (alloc_last w5 (.cells #[.int .u16 y.c, .int .u16 y.h, .int .u16 y.u, .bool y.v] 68))
        have HM6 := Lib.hid (more_alloc w5 (.cells #[.int .u16 y.c, .int .u16 y.h, .int .u16 y.u, .bool y.v] 68))
        have y0 : x.c = y.c := by rw [hy]
        have y1 : x.h = y.h := by rw [hy]
        have y2 : u = y.u := by rw [hy]
        have y3 : x.v = y.v := by rw [hy]
        rw [y0, y2] at hand
        rw [y0] at a1
        rw [y1] at a2
        rw [y3] at a4
        clear hy y0 y1 y2 y3 HUS HUL
        go_upto_region 12 with (fail)
        obtain ⟨XE, HXEE⟩ : ∃ XE, Hid (XE = w5.heap.size) := ⟨_, Lib.hid rfl⟩
        rw [← HXEE.out] at HXE6 ⊢
        generalize w5.alloc (.cells #[.int .u16 y.c, .int .u16 y.h, .int .u16 y.u, .bool y.v] 68) = w6 at *
        have HXA6 := Lib.hid ((HM6.out.block (blk_lt HXA.out)).trans HXA.out)
        have HC6 := Lib.hid (HC5.out.below HM6.out.below)
        have HSZ6 := Lib.hid (Nat.le_trans HM5.out.size HM6.out.size)
        clear a0 a1 a2 a3 a4 a5 hxa hand
        go_cut [63] (fun t wx => t = .bool false ∧ Hid (PlayQ CB m hits L cv y x.t w6 wx))
        case first =>
          have HSC := Lib.hid (fun W => set_row y.c W)
          have HSM := Lib.hid (fun W => messages_any y.h x.t W)
          have HSK := Lib.hid (fun W => keys_any y.u x.t W)
          have HPUT := Lib.hid (fun (W : World) (sa ma ka : Option Addr) (sc mc kc : Nat) => put_plays CB m hits L M cv raw y x.t w6 W sa ma ka sc mc kc HC6.out (Nat.le_trans HM.out HSZ6.out) (by have := HLM.out; omega) HLN.out HY.out)
          have HK := Lib.hid (show ∀ W, More w6 W → (W.cell? ⟨XE, 0, none⟩ = some (.int .u16 y.c) ∧ W.cell? ⟨XE, 1, none⟩ = some (.int .u16 y.h) ∧ W.cell? ⟨XE, 2, none⟩ = some (.int .u16 y.u) ∧ W.cell? ⟨XE, 3, none⟩ = some (.bool y.v) ∧ W.cell? ⟨XA, 5, none⟩ = some (.bool x.t)) from fun W h => ⟨h.cell (cell_of_blk HXE6.out rfl), h.cell (cell_of_blk HXE6.out rfl), h.cell (cell_of_blk HXE6.out rfl), h.cell (cell_of_blk HXE6.out rfl), h.cell (cell_of_blk HXA6.out rfl)⟩)
          have HKQ := Lib.hid (show ∀ W, PlayQ CB m hits L cv y x.t w6 W → (W.cell? ⟨XE, 0, none⟩ = some (.int .u16 y.c) ∧ W.cell? ⟨XE, 1, none⟩ = some (.int .u16 y.h) ∧ W.cell? ⟨XE, 2, none⟩ = some (.int .u16 y.u) ∧ W.cell? ⟨XE, 3, none⟩ = some (.bool y.v) ∧ W.cell? ⟨XA, 5, none⟩ = some (.bool x.t)) from fun W h => by
            obtain ⟨_, _, _, _, _, hf⟩ := h
            have e1 := hf XE (blk_lt HXE6.out) (by have := HC.out.cb; have := HM.out; have := HXEE.out; have := HM5.out.size; omega) (fun e => by have := HC.out.lt _ e; have := HM.out; have := HXEE.out; have := HM5.out.size; omega)
            have e2 := hf XA (blk_lt HXA6.out) (by have := HC.out.cb; have := HM.out; have := HXE.out; omega) (fun e => by have := HC.out.lt _ e; have := HM.out; have := HXE.out; omega)
            exact ⟨cell_of_blk (e1.trans HXE6.out) rfl, cell_of_blk (e1.trans HXE6.out) rfl, cell_of_blk (e1.trans HXE6.out) rfl, cell_of_blk (e1.trans HXE6.out) rfl, cell_of_blk (e2.trans HXA6.out) rfl⟩)
          have HL := Lib.hid (more_drew w6)
          go_region_held3 (fun W => W.cell? ⟨XE, 0, none⟩ = some (.int .u16 y.c) ∧ W.cell? ⟨XE, 1, none⟩ = some (.int .u16 y.h) ∧ W.cell? ⟨XE, 2, none⟩ = some (.int .u16 y.u) ∧ W.cell? ⟨XE, 3, none⟩ = some (.bool y.v) ∧ W.cell? ⟨XA, 5, none⟩ = some (.bool x.t)) (first | with_reducible exact HK.out _ HL.out | with_reducible exact HKQ.out _ HQ.out) (first | (go_at_call 38; refine (HSC.out _).mono ?_; rintro e w7 ⟨⟨v7, rfl, hr7⟩, hb7⟩; obtain ⟨sa, sc, rfl, _⟩ := hr7.shape; have HRS := Lib.hid (hr7.mono (S' := fun x => w6.heap.size ≤ x) (fun x hx => Nat.le_trans HL.out.size hx) (fun _ _ _ _ h => h)); (try have HRM := Lib.hid (HRM.out.below hb7)); (try have HRK := Lib.hid (HRK.out.below hb7)); have HL := Lib.hid (more_trans HL.out (more_of hb7)); clear hr7 hb7) | (go_at_call 39; refine (HSM.out _).mono ?_; rintro e w7 ⟨⟨v7, rfl, ho7⟩, hb7⟩; have HNM := Lib.hid (owns_nil ho7); obtain ⟨ma, mc, rfl, _⟩ := owns_shape ho7; have HRM := Lib.hid (rowM ho7); (try have HRS := Lib.hid (HRS.out.below hb7)); (try have HRK := Lib.hid (HRK.out.below hb7)); have HL := Lib.hid (more_trans HL.out (more_of hb7)); clear ho7 hb7) | (go_at_call 40; refine (HSK.out _).mono ?_; rintro e w7 ⟨⟨v7, rfl, ho7⟩, hb7⟩; obtain ⟨ka, kc, rfl, _⟩ := owns_shape ho7; have HRK := Lib.hid (rowK ho7); (try have HRS := Lib.hid (HRS.out.below hb7)); (try have HRM := Lib.hid (HRM.out.below hb7)); have HL := Lib.hid (more_trans HL.out (more_of hb7)); clear ho7 hb7) | (go_at_call 37; refine (HPUT.out _ _ _ _ _ _ _ HL.out HRS.out HRM.out HNM.out HRK.out).mono ?_; rintro e w7 ⟨rfl, hq7⟩; have HQ := Lib.hid hq7; clear hq7))
          all_goals (go_wp2_with fail; go_meet; exact ⟨rfl, HQ⟩)
        case rest =>
          obtain ⟨rfl, HQ⟩ := hcut
          obtain ⟨w7, rfl⟩ : ∃ w7 : World, w7 = wc := ⟨_, rfl⟩
          obtain ⟨cv7, raw7, hc7, ho7, hb7, hf7⟩ := HQ.out
          have e1 := hf7 XE (blk_lt HXE6.out) (by have := HC.out.cb; have := HM.out; have := HXEE.out; have := HM5.out.size; omega) (fun e => by have := HC.out.lt _ e; have := HM.out; have := HXEE.out; have := HM5.out.size; omega)
          have HXE7 := Lib.hid (e1.trans HXE6.out)
          have HC7 := Lib.hid hc7
          have HB7 := Lib.hid (show Below CB w0 w7 from ((HB.out.trans (HM5.out.below.mono (Nat.le_of_lt (blk_lt HC.out.blk)))).trans (HM6.out.below.mono (Nat.le_of_lt (blk_lt HC5.out.blk)))).trans hb7)
          have HR6 := Lib.hid (HR.out.below (more_trans HM5.out HM6.out).below)
          have HR7 := Lib.hid (row_frame (S' := anyB) (w' := w7) HR6.out (fun _ _ _ => trivial) (fun b hb hbl => hf7 b hbl hb.1 hb.2))
          clear e1 hc7 ho7 hb7 hf7 HQ
          have e0 : w7.cell? ⟨XE, 0, none⟩ = some (.int .u16 y.c) := cell_of_blk HXE7.out rfl
          have e1 : w7.cell? ⟨XE, 1, none⟩ = some (.int .u16 y.h) := cell_of_blk HXE7.out rfl
          have e2 : w7.cell? ⟨XE, 2, none⟩ = some (.int .u16 y.u) := cell_of_blk HXE7.out rfl
          have e3 : w7.cell? ⟨XE, 3, none⟩ = some (.bool y.v) := cell_of_blk HXE7.out rfl
          have hxe := cell_lt e0
          have HREF := Lib.hid (refPut_any (L.map (·.1)) y m (.slice a L.length cap) w7 (by rw [List.length_map]; have := HLN.out; omega) (by omega) (by rw [List.length_map]; have := HLM.out; omega) (by rw [List.length_map]; exact HR7.out) HN.out)
          go_wp2_with fail
          refine HREF.out.mono ?_
          rintro e w8 ⟨⟨v8, rfl, hr8, hn8⟩, hm8⟩
          have HL8 := Lib.hid (show limE (m : Int) (L.map (·.1) ++ [y]) = (limE (m : Int) (L ++ [(y, x.t)])).map (·.1) by rw [← limE_map, List.map_append]; rfl)
          rw [HL8.out, List.length_map] at hr8
          obtain ⟨a8, c8, rfl, _⟩ := hr8.shape
          have HR8 := Lib.hid hr8
          have HN8 := Lib.hid hn8
          have HLL8 := Lib.hid (show (limE (m : Int) (L ++ [(y, x.t)])).length ≤ m by have := limE_len (e := (y, x.t)) (show (L.length : Int) ≤ (m : Int) by have := HLM.out; omega); omega)
          have HLO8 := Lib.hid (show ∀ p ∈ limE (m : Int) (L ++ [(y, x.t)]), p.1.Ok from fun p hp => by
            rcases List.mem_append.1 (limE_mem hp) with h | h
            · exact HLO.out p h
            · rw [List.mem_singleton] at h; subst h; exact HY.out)
          have HC8 := Lib.hid (HC7.out.below hm8.below)
          have HB8 := Lib.hid (HB7.out.trans (hm8.below.mono (Nat.le_of_lt (blk_lt HC7.out.blk))))
          have HI8 := Lib.hid (show PlayI CB m hits (limE (m : Int) (L ++ [(y, x.t)])) a8 c8 w8 from ⟨_, _, _, HC8.out, hm8.size, HR8.out.mono (fun b hb => ⟨by have := blk_lt HC7.out.blk; have hb' : w7.heap.size ≤ b := hb; omega, fun e => by have := HC7.out.lt _ e; have hb' : w7.heap.size ≤ b := hb; omega⟩) (fun _ _ _ _ h => h), HN8.out⟩)
          clear hr8 hn8 hm8 HREF HL8 HR8 HN8 e0 e1 e2 e3 hxe
          generalize limE (m : Int) (L ++ [(y, x.t)]) = L8 at *
          have HLNA := Lib.hid (show Calls Try.prog 44 #[.pointer (some ⟨CB, 0, none⟩)] w8 fun e w' => e = .returned (.int .i64 (L8.length : Int)) ∧ w' = w8 from by
            obtain ⟨ea, ec, hcv⟩ := HC8.out.shape
            have hbk := HC8.out.blk
            rw [hcv] at hbk
            have := len_any CB ea (L8.map entR).length ec _ _ w8 hbk
            rw [List.length_map] at this
            exact this)
          have HHT := Lib.hid (hits_any CB (hits : Int) _ _ w8 HC8.out.blk)
          go_wp2_with fail
          refine HLNA.out.mono ?_
          rintro e wl ⟨rfl, hw⟩
          subst wl
          go_wp2_with fail
          refine HHT.out.mono ?_
          rintro e wl ⟨rfl, hw⟩
          subst wl
          go_wp2_with fail
          go_roundw
          case rel => exact ⟨j + 1, hits, L8, a8, c8, by omega, by omega, by omega, by go_num, rfl, rfl, HLO8, HLL8, HB8, HI8⟩
          case measure => simp [intOf]; omega
      · -- Get
        have hdn : ((d3 : Int) == 0) = false := by simp; omega
        have HXG := Lib.hid (And.intro HX.out.c HX.out.h)
        obtain ⟨qa, HQA⟩ : ∃ qa, Hid ((ansR (refGet (L.map (·.1)) x.c x.h)).1 = qa) := ⟨_, Lib.hid rfl⟩
        obtain ⟨qb, HQB⟩ : ∃ qb, Hid ((ansR (refGet (L.map (·.1)) x.c x.h)).2 = qb) := ⟨_, Lib.hid rfl⟩
        clear hd4
        go_upto_region 15 with (fail)
        clear a0 a1 a2 a3 a4 a5 hxa hd0
        go_cut [11, 12] (fun p1 p2 wx => p1 = .bool qa ∧ p2 = .bool qb ∧ Hid (GetQ CB m hits L M cv raw qb w5 wx))
        case first =>
          have HSC := Lib.hid (fun W => set_row x.c W)
          have HSM := Lib.hid (fun W => messages_any x.h x.t W)
          have HGET := Lib.hid (show ∀ (W : World) (sa ma : Option Addr) (sc mc : Nat), More w5 W → Row (fun z => w5.heap.size ≤ z) W 7 (setCh x.c).length (.slice sa (setCh x.c).length sc) (flatC chC (setCh x.c)) → Row anyB W 3 ((pick (ord16 x.t) x.h).map msgI).length (.slice ma (pick (ord16 x.t) x.h).length mc) (flatC mC ((pick (ord16 x.t) x.h).map msgI)) → NilA (.slice ma (pick (ord16 x.t) x.h).length mc) → Calls Try.prog 42 #[.pointer (some ⟨CB, 0, none⟩), .agg #[.slice sa (setCh x.c).length sc], .slice ma (pick (ord16 x.t) x.h).length mc] W fun e w' => e = .returned (.tuple #[.bool qa, .bool qb]) ∧ GetQ CB m hits L M cv raw qb w5 w' from fun W sa ma sc mc h1 h2 h3 h4 => by
            have := get_plays CB m hits L M cv raw x.c x.h x.t w5 W sa ma sc mc HC5.out HLN.out (by omega) HLO.out HXG.out.1 HXG.out.2 h1 h2 h3 h4
            rw [HQA.out, HQB.out] at this
            exact this)
          have HK := Lib.hid (show ∀ W, More w5 W → (W.cell? ⟨XA, 1, none⟩ = some (.int .u16 x.c) ∧ W.cell? ⟨XA, 2, none⟩ = some (.int .u16 x.h) ∧ W.cell? ⟨XA, 5, none⟩ = some (.bool x.t)) from fun W h => ⟨h.cell (cell_of_blk HXA.out rfl), h.cell (cell_of_blk HXA.out rfl), h.cell (cell_of_blk HXA.out rfl)⟩)
          have HKQ := Lib.hid (show ∀ W, GetQ CB m hits L M cv raw qb w5 W → (W.cell? ⟨XA, 1, none⟩ = some (.int .u16 x.c) ∧ W.cell? ⟨XA, 2, none⟩ = some (.int .u16 x.h) ∧ W.cell? ⟨XA, 5, none⟩ = some (.bool x.t)) from fun W h => by
            obtain ⟨_, _, _, hf⟩ := h
            have e2 := hf XA (blk_lt HXA.out) (by have := HC.out.cb; have := HM.out; have := HXE.out; omega)
            exact ⟨cell_of_blk (e2.trans HXA.out) rfl, cell_of_blk (e2.trans HXA.out) rfl, cell_of_blk (e2.trans HXA.out) rfl⟩)
          have HL := Lib.hid (more_drew w5)
          go_region_held3 (fun W => W.cell? ⟨XA, 1, none⟩ = some (.int .u16 x.c) ∧ W.cell? ⟨XA, 2, none⟩ = some (.int .u16 x.h) ∧ W.cell? ⟨XA, 5, none⟩ = some (.bool x.t)) (first | with_reducible exact HK.out _ HL.out | with_reducible exact HKQ.out _ HQ.out) (first | (go_at_call 38; refine (HSC.out _).mono ?_; rintro e w7 ⟨⟨v7, rfl, hr7⟩, hb7⟩; obtain ⟨sa, sc, rfl, _⟩ := hr7.shape; have HRS := Lib.hid (hr7.mono (S' := fun x => w5.heap.size ≤ x) (fun x hx => Nat.le_trans HL.out.size hx) (fun _ _ _ _ h => h)); (try have HRM := Lib.hid (HRM.out.below hb7)); have HL := Lib.hid (more_trans HL.out (more_of hb7)); clear hr7 hb7) | (go_at_call 39; refine (HSM.out _).mono ?_; rintro e w7 ⟨⟨v7, rfl, ho7⟩, hb7⟩; have HNM := Lib.hid (owns_nil ho7); obtain ⟨ma, mc, rfl, _⟩ := owns_shape ho7; have HRM := Lib.hid (rowM ho7); (try have HRS := Lib.hid (HRS.out.below hb7)); have HL := Lib.hid (more_trans HL.out (more_of hb7)); clear ho7 hb7) | (go_at_call 42; refine (HGET.out _ _ _ _ _ HL.out HRS.out HRM.out HNM.out).mono ?_; rintro e w7 ⟨rfl, hq7⟩; have HQ := Lib.hid hq7; clear hq7))
          all_goals (go_wp2_with fail; go_meet; exact ⟨rfl, rfl, HQ⟩)
        case rest =>
          obtain ⟨rfl, rfl, HQ⟩ := hcut
          obtain ⟨w7, rfl⟩ : ∃ w7 : World, w7 = wc := ⟨_, rfl⟩
          obtain ⟨hc7, hb7, hs7, hf7⟩ := HQ.out
          have e2 := hf7 XA (blk_lt HXA.out) (by have := HC.out.cb; have := HM.out; have := HXE.out; omega)
          have HXA7 := Lib.hid (e2.trans HXA.out)
          have HC7 := Lib.hid hc7
          have HB7 := Lib.hid (show Below CB w0 w7 from (HB.out.trans (HM5.out.below.mono (Nat.le_of_lt (blk_lt HC.out.blk)))).trans hb7)
          have HR7 := Lib.hid (row_frame (S' := fun b => b ≠ CB ∧ cv.ownBlock ≠ some b) (w' := w7) (HR.out.below HM5.out.below) (fun _ hb _ => hb) (fun b hb hbl => hf7 b hbl hb.1))
          have HS7 := Lib.hid (Nat.le_trans HM.out (Nat.le_trans HM5.out.size hs7))
          clear e2 hc7 hb7 hf7 HQ hs7
          have a1 : w7.cell? ⟨XA, 1, none⟩ = some (.int .u16 x.c) := cell_of_blk HXA7.out rfl
          have a2 : w7.cell? ⟨XA, 2, none⟩ = some (.int .u16 x.h) := cell_of_blk HXA7.out rfl
          have hxa := cell_lt a1
          have HREF := Lib.hid (show Calls Try.prog 43 #[.slice a L.length cap, .int .u16 x.c, .int .u16 x.h] w7 fun e w' => e = .returned (.tuple #[.bool qa, .bool qb]) ∧ w' = w7 from by
            have := refGet_any (L.map (·.1)) x.c x.h (.slice a L.length cap) w7 (by rw [List.length_map]; have := HLN.out; omega) HXG.out.1 (fun z hz => by obtain ⟨p, hp, rfl⟩ := List.mem_map.1 hz; exact ⟨(HLO.out p hp).c, (HLO.out p hp).u⟩) (by rw [List.length_map]; exact HR7.out.mono (fun _ _ => trivial) (fun _ _ _ _ h => h))
            rw [HQA.out, HQB.out] at this
            exact this)
          go_wp2_with fail
          refine HREF.out.mono ?_
          rintro e w8 ⟨rfl, hw8⟩
          subst w8
          clear a1 a2 hxa HREF
          have hlm8 := HLM.out
          cases qb with
          | true =>
            have HI8 := Lib.hid (show PlayI CB m (hits + 1) L a cap w7 from ⟨_, _, _, HC7.out, HS7.out, HR7.out, HN.out⟩)
            have HC8 := Lib.hid (show CState S1 w7 CB m ((hits + 1 : Nat) : Int) (L.map entR) M cv raw from HC7.out)
            have HB8 := HB7
            cases qa <;> skip
            all_goals
              have HLNA := Lib.hid (show Calls Try.prog 44 #[.pointer (some ⟨CB, 0, none⟩)] w7 fun e w' => e = .returned (.int .i64 (L.length : Int)) ∧ w' = w7 from by
                obtain ⟨ea, ec, hcv⟩ := HC8.out.shape
                have hbk := HC8.out.blk
                rw [hcv] at hbk
                have := len_any CB ea (L.map entR).length ec _ _ w7 hbk
                rw [List.length_map] at this
                exact this)
              have HHT := Lib.hid (hits_any CB ((hits + 1 : Nat) : Int) _ _ w7 HC8.out.blk)
              go_wp2_with fail
              refine HLNA.out.mono ?_
              rintro e wl ⟨rfl, hw⟩
              subst wl
              go_wp2_with fail
              refine HHT.out.mono ?_
              rintro e wl ⟨rfl, hw⟩
              subst wl
              go_wp2_with fail
              go_roundw
              case rel => exact ⟨j + 1, hits + 1, L, a, cap, by omega, by omega, by omega, by go_num, (by go_num), rfl, HLO, HLM, HB8, HI8⟩
              case measure => simp [intOf]; omega
          | false =>
            have HI8 := Lib.hid (show PlayI CB m hits L a cap w7 from ⟨_, _, _, HC7.out, HS7.out, HR7.out, HN.out⟩)
            have HC8 := Lib.hid (show CState S1 w7 CB m (hits : Int) (L.map entR) M cv raw from HC7.out)
            have HB8 := HB7
            cases qa <;> skip
            all_goals
              have HLNA := Lib.hid (show Calls Try.prog 44 #[.pointer (some ⟨CB, 0, none⟩)] w7 fun e w' => e = .returned (.int .i64 (L.length : Int)) ∧ w' = w7 from by
                obtain ⟨ea, ec, hcv⟩ := HC8.out.shape
                have hbk := HC8.out.blk
                rw [hcv] at hbk
                have := len_any CB ea (L.map entR).length ec _ _ w7 hbk
                rw [List.length_map] at this
                exact this)
              have HHT := Lib.hid (hits_any CB (hits : Int) _ _ w7 HC8.out.blk)
              go_wp2_with fail
              refine HLNA.out.mono ?_
              rintro e wl ⟨rfl, hw⟩
              subst wl
              go_wp2_with fail
              refine HHT.out.mono ?_
              rintro e wl ⟨rfl, hw⟩
              subst wl
              go_wp2_with fail
              go_roundw
              case rel => exact ⟨j + 1, hits, L, a, cap, by omega, by omega, by omega, by go_num, rfl, rfl, HLO, HLM, HB8, HI8⟩
              case measure => simp [intOf]; omega
    · have hje : j = ops.length := by omega
      have HMW := Lib.hid (HWW.out _ HB.out)
      clear hlt
      go_wp2_with fail
      go_ret
      exact ⟨rfl, HMW.out.below⟩
end Go.Proofs.Ytemeppfikpafbaa
