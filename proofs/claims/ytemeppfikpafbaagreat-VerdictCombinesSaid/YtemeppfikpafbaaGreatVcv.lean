/- Texts Mk44, laid together. -/
import Derived.Deep.RegionHeld3
import Derived.Test.YtemeppfikpafbaaGreatVck
import Derived.Test.YtemeppfikpafbaaGreatVcu
/- slices.Contains at keys and messages (59, 60, 82, 83): some bool; law44's Raw.make and Raw.Cause (26, 11): some cause. -/
namespace Go.Proofs.YtemeppfikpafbaaGreat
open Go.RowKit
set_option maxRecDepth 100000 in
set_option maxHeartbeats 2000000 in
theorem index82_any (l : List K4) (k : K4) (v : Value) (w : World) (hl : l.length ≤ 1000) (h : Row anyB w 4 l.length v (flatC kC l)) :
    Calls Tryz.prog 82 #[v, .agg #[.int .u8 k.kind, .int .i64 k.a, .int .i64 k.b, .int .i64 k.n]] w fun e w' => (∃ n : Int, e = .returned (.int .i64 n)) ∧ More w w' := by
  obtain ⟨a, cap, rfl, _⟩ := h.shape
  have HR := Lib.hid h; clear h
  go_enter Tryz.func82, Tryz.ntmps82
  go_upto_region 1 with (fail)
  have HX := Lib.hid (alloc_last w (.cells #[.int .u8 k.kind, .int .i64 k.a, .int .i64 k.b, .int .i64 k.n] 54))
  have HM1 := Lib.hid (more_alloc w (.cells #[.int .u8 k.kind, .int .i64 k.a, .int .i64 k.b, .int .i64 k.n] 54))
  generalize w.alloc (.cells #[.int .u8 k.kind, .int .i64 k.a, .int .i64 k.b, .int .i64 k.n] 54) = w1 at *
  generalize w.heap.size = XB at *
  go_wp2_with fail
  go_loopw [8] (fun i wr => ∃ j : Nat, j ≤ l.length ∧ i = .int .i64 j ∧ Hid (More w1 wr)) (fun i _ => l.length - (intOf i).toNat)
  case atStart => exact ⟨0, Nat.zero_le _, rfl, Lib.hid (World.grownBy.refl _ _)⟩
  case round =>
    obtain ⟨j, hj, rfl, HM⟩ := hrel
    by_cases hlt : j < l.length
    · obtain ⟨b, off, rfl, _, hc⟩ := HR.out.atC kC_len hlt
      have hm := more_trans HM1.out HM.out
      have g0 := hm.cell (hc 0 (.int .u8 l[j].kind) rfl)
      have g1 := hm.cell (hc 1 (.int .i64 l[j].a) rfl)
      have g2 := hm.cell (hc 2 (.int .i64 l[j].b) rfl)
      have g3 := hm.cell (hc 3 (.int .i64 l[j].n) rfl)
      rw [Nat.add_zero] at g0
      clear hc hm
      have HLT := Lib.hid hlt
      have hlt9 := hlt
      generalize l[j] = y at *
      have HXB := Lib.hid ((HM.out.block (blk_lt HX.out)).trans HX.out)
      have e0 : wr.cell? ⟨XB, 0, none⟩ = some (.int .u8 k.kind) := cell_of_blk HXB.out rfl
      have e1 : wr.cell? ⟨XB, 1, none⟩ = some (.int .i64 k.a) := cell_of_blk HXB.out rfl
      have e2 : wr.cell? ⟨XB, 2, none⟩ = some (.int .i64 k.b) := cell_of_blk HXB.out rfl
      have e3 : wr.cell? ⟨XB, 3, none⟩ = some (.int .i64 k.n) := cell_of_blk HXB.out rfl
      have hbg := cell_lt g0
      have hbe := cell_lt e0
      have heq := fun W => run_eqK k y W
      generalize decide (k = y) = q at *
      go_wp2_with fail
      go_quiet (fail)
      clear g0 g1 g2 g3 e0 e1 e2 e3 heq
      cases q with
      | true =>
        go_wp2_with fail
        go_ret
        exact ⟨⟨_, rfl⟩, more_trans HM1.out (more_trans HM.out (grownBy_drewN _ _ _))⟩
      | false =>
        go_wp2_with fail
        go_roundw
        case rel => exact ⟨j + 1, by have := HLT.out; omega, by go_num, Lib.hid (more_trans HM.out (grownBy_drewN _ _ _))⟩
        case measure => have := HLT.out; simp [intOf]; omega
    · obtain rfl : j = l.length := by omega
      go_wp2_with fail
      go_ret
      exact ⟨⟨_, rfl⟩, more_trans HM1.out HM.out⟩
set_option maxRecDepth 100000 in
theorem contains59_any (l : List K4) (k : K4) (v : Value) (w : World) (hl : l.length ≤ 1000) (h : Row anyB w 4 l.length v (flatC kC l)) :
    Calls Tryz.prog 59 #[v, .agg #[.int .u8 k.kind, .int .i64 k.a, .int .i64 k.b, .int .i64 k.n]] w fun e w' => (∃ q : Bool, e = .returned (.bool q)) ∧ More w w' := by
  have HI := Lib.hid (fun W (hW : More w W) => index82_any l k v W hl (h.below hW.below))
  obtain ⟨a, cap, rfl, _⟩ := h.shape
  clear h
  generalize l.length = n at *
  go_enter Tryz.func59, Tryz.ntmps59
  go_upto_region 1 with (fail)
  have HX := Lib.hid (alloc_last w (.cells #[.int .u8 k.kind, .int .i64 k.a, .int .i64 k.b, .int .i64 k.n] 54))
  have HM1 := Lib.hid (more_alloc w (.cells #[.int .u8 k.kind, .int .i64 k.a, .int .i64 k.b, .int .i64 k.n] 54))
  generalize w.alloc (.cells #[.int .u8 k.kind, .int .i64 k.a, .int .i64 k.b, .int .i64 k.n] 54) = w1 at *
  generalize w.heap.size = XB at *
  have e0 : w1.cell? ⟨XB, 0, none⟩ = some (.int .u8 k.kind) := cell_of_blk HX.out rfl
  have e1 : w1.cell? ⟨XB, 1, none⟩ = some (.int .i64 k.a) := cell_of_blk HX.out rfl
  have e2 : w1.cell? ⟨XB, 2, none⟩ = some (.int .i64 k.b) := cell_of_blk HX.out rfl
  have e3 : w1.cell? ⟨XB, 3, none⟩ = some (.int .i64 k.n) := cell_of_blk HX.out rfl
  have hbe := cell_lt e0
  go_wp2_with fail
  refine (HI.out _ HM1.out).mono ?_
  rintro e w2 ⟨⟨r, rfl⟩, hm2⟩
  have HM2 := Lib.hid (more_trans HM1.out hm2)
  clear hm2 e0 e1 e2 e3 hbe
  by_cases hr : 0 ≤ r
  · go_wp2_with fail
    go_ret
    exact ⟨⟨_, rfl⟩, HM2.out⟩
  · go_wp2_with fail
    go_ret
    exact ⟨⟨_, rfl⟩, HM2.out⟩
set_option maxRecDepth 100000 in
set_option maxHeartbeats 2000000 in
theorem index83_any (l : List M3) (k : M3) (v : Value) (w : World) (hl : l.length ≤ 1000) (h : Row anyB w 3 l.length v (flatC mC l)) :
    Calls Tryz.prog 83 #[v, .agg #[.int .i64 k.f, .int .i64 k.t, .int .i64 k.n]] w fun e w' => (∃ n : Int, e = .returned (.int .i64 n)) ∧ More w w' := by
  obtain ⟨a, cap, rfl, _⟩ := h.shape
  have HR := Lib.hid h; clear h
  go_enter Tryz.func83, Tryz.ntmps83
  go_upto_region 1 with (fail)
  have HX := Lib.hid (alloc_last w (.cells #[.int .i64 k.f, .int .i64 k.t, .int .i64 k.n] 57))
  have HM1 := Lib.hid (more_alloc w (.cells #[.int .i64 k.f, .int .i64 k.t, .int .i64 k.n] 57))
  generalize w.alloc (.cells #[.int .i64 k.f, .int .i64 k.t, .int .i64 k.n] 57) = w1 at *
  generalize w.heap.size = XB at *
  go_wp2_with fail
  go_loopw [8] (fun i wr => ∃ j : Nat, j ≤ l.length ∧ i = .int .i64 j ∧ Hid (More w1 wr)) (fun i _ => l.length - (intOf i).toNat)
  case atStart => exact ⟨0, Nat.zero_le _, rfl, Lib.hid (World.grownBy.refl _ _)⟩
  case round =>
    obtain ⟨j, hj, rfl, HM⟩ := hrel
    by_cases hlt : j < l.length
    · obtain ⟨b, off, rfl, _, hc⟩ := HR.out.atC mC_len hlt
      have hm := more_trans HM1.out HM.out
      have g0 := hm.cell (hc 0 (.int .i64 l[j].f) rfl)
      have g1 := hm.cell (hc 1 (.int .i64 l[j].t) rfl)
      have g2 := hm.cell (hc 2 (.int .i64 l[j].n) rfl)
      rw [Nat.add_zero] at g0
      clear hc hm
      have HLT := Lib.hid hlt
      have hlt9 := hlt
      generalize l[j] = y at *
      have HXB := Lib.hid ((HM.out.block (blk_lt HX.out)).trans HX.out)
      have e0 : wr.cell? ⟨XB, 0, none⟩ = some (.int .i64 k.f) := cell_of_blk HXB.out rfl
      have e1 : wr.cell? ⟨XB, 1, none⟩ = some (.int .i64 k.t) := cell_of_blk HXB.out rfl
      have e2 : wr.cell? ⟨XB, 2, none⟩ = some (.int .i64 k.n) := cell_of_blk HXB.out rfl
      have hbg := cell_lt g0
      have hbe := cell_lt e0
      have heq := fun W => run_eqM k y W
      generalize decide (k = y) = q at *
      go_wp2_with fail
      go_quiet (fail)
      clear g0 g1 g2 e0 e1 e2 heq
      cases q with
      | true =>
        go_wp2_with fail
        go_ret
        exact ⟨⟨_, rfl⟩, more_trans HM1.out (more_trans HM.out (grownBy_drewN _ _ _))⟩
      | false =>
        go_wp2_with fail
        go_roundw
        case rel => exact ⟨j + 1, by have := HLT.out; omega, by go_num, Lib.hid (more_trans HM.out (grownBy_drewN _ _ _))⟩
        case measure => have := HLT.out; simp [intOf]; omega
    · obtain rfl : j = l.length := by omega
      go_wp2_with fail
      go_ret
      exact ⟨⟨_, rfl⟩, more_trans HM1.out HM.out⟩
set_option maxRecDepth 100000 in
theorem contains60_any (l : List M3) (k : M3) (v : Value) (w : World) (hl : l.length ≤ 1000) (h : Row anyB w 3 l.length v (flatC mC l)) :
    Calls Tryz.prog 60 #[v, .agg #[.int .i64 k.f, .int .i64 k.t, .int .i64 k.n]] w fun e w' => (∃ q : Bool, e = .returned (.bool q)) ∧ More w w' := by
  have HI := Lib.hid (fun W (hW : More w W) => index83_any l k v W hl (h.below hW.below))
  obtain ⟨a, cap, rfl, _⟩ := h.shape
  clear h
  generalize l.length = n at *
  go_enter Tryz.func60, Tryz.ntmps60
  go_upto_region 1 with (fail)
  have HX := Lib.hid (alloc_last w (.cells #[.int .i64 k.f, .int .i64 k.t, .int .i64 k.n] 57))
  have HM1 := Lib.hid (more_alloc w (.cells #[.int .i64 k.f, .int .i64 k.t, .int .i64 k.n] 57))
  generalize w.alloc (.cells #[.int .i64 k.f, .int .i64 k.t, .int .i64 k.n] 57) = w1 at *
  generalize w.heap.size = XB at *
  have e0 : w1.cell? ⟨XB, 0, none⟩ = some (.int .i64 k.f) := cell_of_blk HX.out rfl
  have e1 : w1.cell? ⟨XB, 1, none⟩ = some (.int .i64 k.t) := cell_of_blk HX.out rfl
  have e2 : w1.cell? ⟨XB, 2, none⟩ = some (.int .i64 k.n) := cell_of_blk HX.out rfl
  have hbe := cell_lt e0
  go_wp2_with fail
  refine (HI.out _ HM1.out).mono ?_
  rintro e w2 ⟨⟨r, rfl⟩, hm2⟩
  have HM2 := Lib.hid (more_trans HM1.out hm2)
  clear hm2 e0 e1 e2 hbe
  by_cases hr : 0 ≤ r
  · go_wp2_with fail
    go_ret
    exact ⟨⟨_, rfl⟩, HM2.out⟩
  · go_wp2_with fail
    go_ret
    exact ⟨⟨_, rfl⟩, HM2.out⟩
def bC (b : Int) : List Value := [.int .u8 b]
theorem bC_len (b : Int) : (bC b).length = 1 := rfl
/-- A raw cause in memory: two lists of bytes. -/
structure RawAt (w : World) (ks ms : List Int) (kv mv : Value) : Prop where
  rk : Row anyB w 1 ks.length kv (flatC bC ks)
  rm : Row anyB w 1 ms.length mv (flatC bC ms)
  bk : ∀ b ∈ ks, 0 ≤ b ∧ b ≤ 255
  bm : ∀ b ∈ ms, 0 ≤ b ∧ b ≤ 255
  lk : ks.length ≤ maxLen
  lm : ms.length ≤ maxLen
theorem RawAt.below {w w' : World} {ks ms : List Int} {kv mv : Value} (h : RawAt w ks ms kv mv) (hb : Below w.heap.size w w') : RawAt w' ks ms kv mv := ⟨h.rk.below hb, h.rm.below hb, h.bk, h.bm, h.lk, h.lm⟩
/-- The four blocks of make: the raw cause, the two results, the cause that is made. -/
structure MkS (N : Nat) (raw : Array Value) (w wr : World) (u h : Value) : Prop where
  bel : Below N w wr
  sz : N + 4 ≤ wr.heap.size
  raw : wr.heap[N]? = some (.cells raw 41)
  res : wr.heap[N + 1]? = some (.cells #[.slice none 0 0, .slice none 0 0] 34)
  ref : wr.heap[N + 1 + 1]? = some (.cells #[.slice none 0 0, .slice none 0 0] 72)
  cur : wr.heap[N + 1 + 1 + 1]? = some (.cells #[u, h] 34)
theorem MkS.grown {N : Nat} {raw : Array Value} {w wr w' : World} {u h : Value} (k : MkS N raw w wr u h) {r : Option Nat} (hg : wr.grownBy w' r) (hr : ∀ z, r = some z → N + 4 ≤ z) : MkS N raw w w' u h := by
  have key : ∀ b o, wr.heap[b]? = some o → b < N + 4 → w'.heap[b]? = some o := fun b o hb hlt => (hg.block b (by have := k.sz; omega) (fun e => by have := hr b e.symm; omega)).trans hb
  exact ⟨k.bel.grown hg (by have := k.sz; omega) (fun z hz => by have := hr z hz; omega), Nat.le_trans k.sz hg.size, key _ _ k.raw (by omega), key _ _ k.res (by omega), key _ _ k.ref (by omega), key _ _ k.cur (by omega)⟩
theorem MkS.more {N : Nat} {raw : Array Value} {w wr w' : World} {u h : Value} (k : MkS N raw w wr u h) (hm : More wr w') : MkS N raw w w' u h := k.grown hm (fun z hz => by cases hz)
theorem heap_set {w : World} {b o : Nat} {arr : Array Value} {t : TypeId} (h : w.heap[b]? = some (.cells arr t)) (v : Value) : (w.setCell ⟨b, o, none⟩ v).heap[b]? = some (.cells (arr.setIfInBounds o v) t) := by
  simp [World.setCell, Array.getElem?_modify, h]
theorem MkS.set {N : Nat} {raw : Array Value} {w wr : World} {u h u' h' : Value} (k : MkS N raw w wr u h) (o : Nat) (v : Value) (e : #[u, h].setIfInBounds o v = #[u', h']) : MkS N raw w (wr.setCell ⟨N + 1 + 1 + 1, o, none⟩ v) u' h' := by
  have key : ∀ b x, wr.heap[b]? = some x → b ≠ N + 1 + 1 + 1 → (wr.setCell ⟨N + 1 + 1 + 1, o, none⟩ v).heap[b]? = some x := fun b x hb hne => (Below.heap_setCell wr ⟨N + 1 + 1 + 1, o, none⟩ v b hne).trans hb
  exact ⟨k.bel.setCell (p := ⟨N + 1 + 1 + 1, o, none⟩) (by show N ≤ N + 1 + 1 + 1; omega) v, by have := k.sz; simpa [World.setCell] using this, key _ _ k.raw (by omega), key _ _ k.res (by omega), key _ _ k.ref (by omega), by rw [← e]; exact heap_set k.cur v⟩
theorem owns_set {w : World} {b o B : Nat} {e : TypeId} {sz n : Nat} {v : Value} {xs : List Value} (h : w.ownsRow B e sz v n xs) (hb : b < B) (x : Value) : (w.setCell ⟨b, o, none⟩ x).ownsRow B e sz v n xs :=
  owns_keep h (fun z hz => Below.heap_setCell w ⟨b, o, none⟩ x z (fun e => by have h1 := ((owns_shape h).choose_spec.choose_spec.2 z hz).1; have h2 : z = b := e; omega))
theorem frz_of_blk {w : World} {b o : Nat} {arr : Array Value} {t : TypeId} (h : w.heap[b]? = some (.cells arr t)) : w.frozen? ⟨b, o, none⟩ = false := by simp [World.frozen?, h]
theorem set_cell {w : World} {b o b' o' : Nat} {v x : Value} (hne : b ≠ b') (h : w.cell? ⟨b, o, none⟩ = some v) : (w.setCell ⟨b', o', none⟩ x).cell? ⟨b, o, none⟩ = some v := (World.cell?_of_block (w := w) (a := ⟨b, o, none⟩) (Below.heap_setCell w ⟨b', o', none⟩ x b hne)).trans h
theorem allocd_cell {w : World} {a : Addr} {v : Value} (o : Obj) (h : w.cell? ⟨a.block, a.off, none⟩ = some v) : ((w.alloc o).drew).cell? ⟨a.block, a.off, none⟩ = some v := alloc_cell o h
/-- Blocks from A to B stay. -/
structure KpB (A B : Nat) (w w' : World) : Prop where
  sz : B ≤ w'.heap.size
  keep : ∀ b, A ≤ b → b < B → w'.heap[b]? = w.heap[b]?
theorem KpB.refl {A B : Nat} {w : World} (h : B = w.heap.size) : KpB A B w w := ⟨Nat.le_of_eq h, fun _ _ _ => rfl⟩
theorem KpB.grown {A B : Nat} {w w1 w2 : World} (h : KpB A B w w1) {r : Option Nat} (hg : w1.grownBy w2 r) (hr : ∀ z, r = some z → B ≤ z) : KpB A B w w2 :=
  ⟨Nat.le_trans h.sz hg.size, fun b h1 h2 => (hg.block b (by have := h.sz; omega) (fun e => by have := hr b e.symm; omega)).trans (h.keep b h1 h2)⟩
theorem KpB.more {A B : Nat} {w w1 w2 : World} (h : KpB A B w w1) (hm : More w1 w2) : KpB A B w w2 := h.grown hm (fun z hz => by cases hz)
theorem KpB.set {N B : Nat} {w w1 : World} (h : KpB (N + 4) B w w1) {o : Nat} (v : Value) : KpB (N + 4) B w (w1.setCell ⟨N + 1 + 1 + 1, o, none⟩ v) :=
  ⟨by have := h.sz; simpa [World.setCell] using this, fun b h1 h2 => (Below.heap_setCell w1 ⟨N + 1 + 1 + 1, o, none⟩ v b (fun e => by have h3 : b = N + 1 + 1 + 1 := e; omega)).trans (h.keep b h1 h2)⟩
set_option maxRecDepth 100000 in
set_option maxHeartbeats 4000000 in
theorem make26_any (ks ms : List Int) (kv mv : Value) (w : World) (h : RawAt w ks ms kv mv) :
    Calls Tryz.prog 26 #[.agg #[kv, mv]] w fun e w' => (∃ c u h, e = .returned (.tuple #[.agg #[u, h], .agg #[u, h]]) ∧ CauS (fun b => w.heap.size ≤ b) w' c u h) ∧ Below w.heap.size w w' := by
  obtain ⟨ka, kc, rfl, _⟩ := h.rk.shape
  obtain ⟨ma, mc, rfl, _⟩ := h.rm.shape
  have HR := Lib.hid h; clear h
  have hkl : ks.length ≤ 9223372036854775807 := by have := HR.out.lk; unfold maxLen at this; exact this
  have hml : ms.length ≤ 9223372036854775807 := by have := HR.out.lm; unfold maxLen at this; exact this
  obtain ⟨N, HN⟩ : ∃ N, Hid (N = w.heap.size) := ⟨_, Lib.hid rfl⟩
  go_enter Tryz.func26, Tryz.ntmps26
  go_upto_block 0 with (fail)
  have HS0 := Lib.hid (show MkS N #[.slice ka ks.length kc, .slice ma ms.length mc] w ((((w.alloc (.cells #[.slice ka ks.length kc, .slice ma ms.length mc] 41)).alloc (.cells #[.slice none 0 0, .slice none 0 0] 34)).alloc (.cells #[.slice none 0 0, .slice none 0 0] 72)).alloc (.cells #[.slice none 0 0, .slice none 0 0] 34)) (.slice none 0 0) (.slice none 0 0) by
    rw [HN.out]
    have k0 := alloc_last w (.cells #[.slice ka ks.length kc, .slice ma ms.length mc] 41)
    have k1 := alloc_last (w.alloc (.cells #[.slice ka ks.length kc, .slice ma ms.length mc] 41)) (.cells #[.slice none 0 0, .slice none 0 0] 34)
    have k2 := alloc_last ((w.alloc (.cells #[.slice ka ks.length kc, .slice ma ms.length mc] 41)).alloc (.cells #[.slice none 0 0, .slice none 0 0] 34)) (.cells #[.slice none 0 0, .slice none 0 0] 72)
    have k3 := alloc_last (((w.alloc (.cells #[.slice ka ks.length kc, .slice ma ms.length mc] 41)).alloc (.cells #[.slice none 0 0, .slice none 0 0] 34)).alloc (.cells #[.slice none 0 0, .slice none 0 0] 72)) (.cells #[.slice none 0 0, .slice none 0 0] 34)
    have m0 := more_alloc w (.cells #[.slice ka ks.length kc, .slice ma ms.length mc] 41)
    have m1 := more_alloc (w.alloc (.cells #[.slice ka ks.length kc, .slice ma ms.length mc] 41)) (.cells #[.slice none 0 0, .slice none 0 0] 34)
    have m2 := more_alloc ((w.alloc (.cells #[.slice ka ks.length kc, .slice ma ms.length mc] 41)).alloc (.cells #[.slice none 0 0, .slice none 0 0] 34)) (.cells #[.slice none 0 0, .slice none 0 0] 72)
    have m3 := more_alloc (((w.alloc (.cells #[.slice ka ks.length kc, .slice ma ms.length mc] 41)).alloc (.cells #[.slice none 0 0, .slice none 0 0] 34)).alloc (.cells #[.slice none 0 0, .slice none 0 0] 72)) (.cells #[.slice none 0 0, .slice none 0 0] 34)
    simp only [World.size_alloc] at k1 k2 k3
    have n2 := more_trans m2 m3
    have n1 := more_trans m1 n2
    exact ⟨(more_trans m0 n1).below, by simp only [World.size_alloc]; omega, (n1.block (blk_lt k0)).trans k0, (n2.block (blk_lt k1)).trans k1, (m3.block (blk_lt k2)).trans k2, k3⟩)
  obtain ⟨W4, hW4⟩ : ∃ W4, W4 = ((((w.alloc (.cells #[.slice ka ks.length kc, .slice ma ms.length mc] 41)).alloc (.cells #[.slice none 0 0, .slice none 0 0] 34)).alloc (.cells #[.slice none 0 0, .slice none 0 0] 72)).alloc (.cells #[.slice none 0 0, .slice none 0 0] 34)) := ⟨_, rfl⟩
  rw [← hW4] at HS0 ⊢
  clear hW4
  rw [← HN.out]
  obtain ⟨i0, hi0, hz0, hz1, hz2⟩ := info_parts info48
  go_cut [] (fun wx => ∃ (l : List K4) (u : Value), l.length ≤ 3 ∧ Hid (MkS N #[.slice ka ks.length kc, .slice ma ms.length mc] w wx u (.slice none 0 0)) ∧ Hid (wx.ownsRow (N + 4) 54 4 u l.length (flatC kC l)))
  case first =>
    as_aux_lemma =>
      go_wp2_with fail
      go_loopw [5] (fun i wr => ∃ (j : Nat) (l : List K4) (u : Value), j ≤ ks.length ∧ j ≤ 3 ∧ l.length ≤ j ∧ i = .int .i64 j ∧ Hid (MkS N #[.slice ka ks.length kc, .slice ma ms.length mc] w wr u (.slice none 0 0)) ∧ Hid (wr.ownsRow (N + 4) 54 4 u l.length (flatC kC l))) (fun i _ => 3 - (intOf i).toNat)
      case atStart => exact ⟨0, [], .slice none 0 0, Nat.zero_le _, Nat.zero_le _, Nat.le_refl _, rfl, HS0, Lib.hid (World.ownsRow_nil _ _ _ _)⟩
      case round =>
        obtain ⟨j, l, u, hj, hj3, hlj, rfl, HS, HO⟩ := hrel
        have r0 : wr.cell? ⟨N, 0, none⟩ = some (.slice ka ks.length kc) := cell_of_blk HS.out.raw rfl
        have hrb := cell_lt r0
        by_cases hlt : j < ks.length
        · by_cases hl3 : j < 3
          · obtain ⟨b, off, rfl, _, hc⟩ := HR.out.rk.atC bC_len hlt
            have HM := Lib.hid (show More w wr from more_of (by have := HS.out.bel; rw [HN.out] at this; exact this))
            have g0 := HM.out.cell (hc 0 (.int .u8 ks[j]) rfl)
            rw [Nat.add_zero, Nat.mul_one] at g0
            clear hc
            have hbd := HR.out.bk _ (List.getElem_mem hlt)
            generalize ks[j] = x at *
            have hbg := cell_lt g0
            have s0 : wr.drew.cell? ⟨N, 0, none⟩ = some (.slice (some ⟨b, off, none⟩) ks.length kc) := r0
            have s1 : wr.drew.cell? ⟨b, off + j, none⟩ = some (.int .u8 x) := g0
            have hj1 : (j : Int) < (ks.length : Int) := by omega
            go_upto_region 5 with (fail)
            go_region_held3 (fun W => W.cell? ⟨N, 0, none⟩ = some (.slice (some ⟨b, off, none⟩) ks.length kc) ∧ W.cell? ⟨b, off + j, none⟩ = some (.int .u8 x)) (first | with_reducible exact ⟨s0, s1⟩ | with_reducible exact ⟨allocd_cell (a := ⟨N, 0, none⟩) _ r0, allocd_cell (a := ⟨b, off + j, none⟩) _ g0⟩) (fail)
            generalize x.tmod 3 = y0 at *
            generalize IntKind.i64.wrap ((IntKind.u8.wrap (x.tdiv 3)).tmod 3) = y1 at *
            generalize IntKind.i64.wrap ((IntKind.u8.wrap (x.tdiv 9)).tmod 2) = y2 at *
            generalize IntKind.i64.wrap ((IntKind.u8.wrap (x.tdiv 18)).tmod 3) = y3 at *
            have HKB := Lib.hid (show ((wr.alloc (.cells #[.int .u8 y0, .int .i64 y1, .int .i64 y2, .int .i64 y3] 54)).drew).heap[wr.heap.size]? = some (.cells #[.int .u8 y0, .int .i64 y1, .int .i64 y2, .int .i64 y3] 54) from alloc_last _ _)
            have HM5 := Lib.hid (show More wr ((wr.alloc (.cells #[.int .u8 y0, .int .i64 y1, .int .i64 y2, .int .i64 y3] 54)).drew) from more_trans (more_alloc _ _) (more_drew _))
            obtain ⟨ua, uc, rfl, _⟩ := owns_shape HO.out
            clear r0 hrb g0 hbg s0 s1 hbd
            generalize (wr.alloc (.cells #[.int .u8 y0, .int .i64 y1, .int .i64 y2, .int .i64 y3] 54)).drew = w5 at *
            generalize wr.heap.size = KB at *
            have HS5 := Lib.hid (HS.out.more HM5.out)
            have HO5 := Lib.hid (owns_keep HO.out (fun z hz => HM5.out.block (HO.out.lt z hz).2))
            have k0 : w5.cell? ⟨KB, 0, none⟩ = some (.int .u8 y0) := cell_of_blk HKB.out rfl
            have k1 : w5.cell? ⟨KB, 1, none⟩ = some (.int .i64 y1) := cell_of_blk HKB.out rfl
            have k2 : w5.cell? ⟨KB, 2, none⟩ = some (.int .i64 y2) := cell_of_blk HKB.out rfl
            have k3 : w5.cell? ⟨KB, 3, none⟩ = some (.int .i64 y3) := cell_of_blk HKB.out rfl
            have c0 : w5.cell? ⟨N + 1 + 1 + 1, 0, none⟩ = some (.slice ua l.length uc) := cell_of_blk HS5.out.cur rfl
            have hkb := cell_lt k0
            have hcb := cell_lt c0
            go_wp2_with fail
            refine (contains59_any l ⟨y0, y1, y2, y3⟩ _ w5 (by omega) ((Row.of_owns HO5.out).mono (fun _ _ => trivial) (fun _ _ _ _ h => h))).mono ?_
            rintro e w6 ⟨⟨q, rfl⟩, hm6⟩
            have HS6 := Lib.hid (HS5.out.more hm6)
            have HO6 := Lib.hid (owns_keep HO5.out (fun z hz => hm6.block (HO5.out.lt z hz).2))
            have HKB6 := Lib.hid ((hm6.block (blk_lt HKB.out)).trans HKB.out)
            clear hm6 k0 k1 k2 k3 c0 hkb hcb HS5 HO5 HKB HM5
            cases q with
            | true =>
              go_wp2_with fail
              go_roundw
              case rel => exact ⟨j + 1, l, _, by omega, by omega, by omega, by go_num, HS6, HO6⟩
              case measure => simp [intOf]; omega
            | false =>
              have k0 : w6.cell? ⟨KB, 0, none⟩ = some (.int .u8 y0) := cell_of_blk HKB6.out rfl
              have k1 : w6.cell? ⟨KB, 1, none⟩ = some (.int .i64 y1) := cell_of_blk HKB6.out rfl
              have k2 : w6.cell? ⟨KB, 2, none⟩ = some (.int .i64 y2) := cell_of_blk HKB6.out rfl
              have k3 : w6.cell? ⟨KB, 3, none⟩ = some (.int .i64 y3) := cell_of_blk HKB6.out rfl
              have c0 : w6.cell? ⟨N + 1 + 1 + 1, 0, none⟩ = some (.slice ua l.length uc) := cell_of_blk HS6.out.cur rfl
              have hkb := cell_lt k0
              have hcb := cell_lt c0
              have hm1 : l.length + 1 ≤ maxLen := by unfold maxLen; omega
              have hm2 : (l.length + 1) * 32 ≤ 140737488355328 := by omega
              have HO7 := Lib.hid (HO6.out.alloc (.cells #[.int .u8 y0, .int .i64 y1, .int .i64 y2, .int .i64 y3] 54))
              have HS7 := Lib.hid (HS6.out.more (more_alloc _ (.cells #[.int .u8 y0, .int .i64 y1, .int .i64 y2, .int .i64 y3] 54)))
              have HOZ := Lib.hid (fun z hz => (HO6.out.lt z hz))
              have HSZ := Lib.hid (show N + 4 ≤ w6.heap.size from HS6.out.sz)
              go_wp2_with (at_builtin; refine wpList_append_lies _ rfl _ _ 31 rfl (N + 4) 54 i0 _ 4 32 Tryz.underlying31 hi0 hz0 hz1 hz2 rfl (by omega) (.slice ua l.length uc) l.length (flatC kC l) rfl HO7.out ⟨w6.heap.size, 0, none⟩ 1 1 [.int .u8 y0, .int .i64 y1, .int .i64 y2, .int .i64 y3] rfl rfl (World.news_of_block (cs := #[.int .u8 y0, .int .i64 y1, .int .i64 y2, .int .i64 y3]) (t := 54) (fr := (0, 0)) (alloc_last _ _)) (by simp [Value.oneCell']) (by omega) hm1 hm2 (by rw [World.size_alloc]; exact Nat.le_succ_of_le HSZ.out) (w6.heap.size + 1) (by simp) ?_; intro gg cap8 w8 hown8 hgrow8 hat8 _; have HS8 := Lib.hid (HS7.out.grown hgrow8 (fun z hz => (HOZ.out z hz).1)); have c8 := cell_of_blk (j := 0) HS8.out.cur rfl; have f8 := frz_of_blk (o := 0) HS8.out.cur; have hb8 := cell_lt c8)
              have HS9 := Lib.hid (HS8.out.set 0 (.slice (some ⟨gg, 0, none⟩) (l.length + 1) cap8) rfl)
              have HO9 := Lib.hid (owns_set (b := N + 1 + 1 + 1) (o := 0) hown8 (by omega) (.slice (some ⟨gg, 0, none⟩) (l.length + 1) cap8))
              have HO10 := Lib.hid (show (w8.setCell ⟨N + 1 + 1 + 1, 0, none⟩ (.slice (some ⟨gg, 0, none⟩) (l.length + 1) cap8)).ownsRow (N + 4) 54 4 (.slice (some ⟨gg, 0, none⟩) (l.length + 1) cap8) (l ++ [(⟨y0, y1, y2, y3⟩ : K4)]).length (flatC kC (l ++ [(⟨y0, y1, y2, y3⟩ : K4)])) by rw [List.length_append, List.length_singleton, flatC_push]; exact HO9.out)
              have HLL := Lib.hid (show (l ++ [(⟨y0, y1, y2, y3⟩ : K4)]).length = l.length + 1 by rw [List.length_append, List.length_singleton])
              clear hown8 hgrow8 hat8 c8 f8 hb8 HO9
              go_wp2_with fail
              go_roundw
              case rel => exact ⟨j + 1, l ++ [⟨y0, y1, y2, y3⟩], _, by omega, by omega, by rw [HLL.out]; omega, by go_num, HS9, HO10⟩
              case measure => simp [intOf]; omega
          · have h3 : ¬ (j : Int) < 3 := by omega
            go_wp2_with fail
            go_meet
            exact ⟨l, u, by omega, HS, HO⟩
        · obtain rfl : j = ks.length := by omega
          go_wp2_with fail
          go_meet
          exact ⟨l, u, by omega, HS, HO⟩
  case rest =>
    obtain ⟨l, u, hl3, HS, HO⟩ := hcut
    clear i0 hi0 hz0 hz1 hz2
    obtain ⟨i0, hi0, hz0, hz1, hz2⟩ := info_parts info54
    obtain ⟨N2, HN2⟩ : ∃ N2, Hid (N2 = wc.heap.size) := ⟨_, Lib.hid rfl⟩
    have HN4 := Lib.hid (show N + 4 ≤ N2 by rw [HN2.out]; exact HS.out.sz)
    have HL3 := Lib.hid hl3
    clear hl3
    go_upto_block 2 with (fail)
    obtain ⟨w5, rfl⟩ : ∃ w5 : World, w5 = wc := ⟨_, rfl⟩
    go_cut [] (fun wx => ∃ (m : List M3) (h : Value), m.length ≤ 2 ∧ Hid (MkS N #[.slice ka ks.length kc, .slice ma ms.length mc] w wx u h) ∧ Hid (wx.ownsRow N2 57 3 h m.length (flatC mC m)) ∧ Hid (KpB (N + 4) N2 w5 wx))
    case first =>
      as_aux_lemma =>
        go_wp2_with fail
        go_loopw [7] (fun i wr => ∃ (j : Nat) (m : List M3) (h : Value), j ≤ ms.length ∧ j ≤ 2 ∧ m.length ≤ j ∧ i = .int .i64 j ∧ Hid (MkS N #[.slice ka ks.length kc, .slice ma ms.length mc] w wr u h) ∧ Hid (wr.ownsRow N2 57 3 h m.length (flatC mC m)) ∧ Hid (KpB (N + 4) N2 w5 wr)) (fun i _ => 2 - (intOf i).toNat)
        case atStart => exact ⟨0, [], .slice none 0 0, Nat.zero_le _, Nat.zero_le _, Nat.le_refl _, rfl, HS, Lib.hid (World.ownsRow_nil _ _ _ _), Lib.hid (KpB.refl HN2.out)⟩
        case round =>
          obtain ⟨j, m, h, hj, hj3, hlj, rfl, HS, HO, HK⟩ := hrel
          have r0 : wr.cell? ⟨N, 1, none⟩ = some (.slice ma ms.length mc) := cell_of_blk HS.out.raw rfl
          have hrb := cell_lt r0
          by_cases hlt : j < ms.length
          · by_cases hl3 : j < 2
            · obtain ⟨b, off, rfl, _, hc⟩ := HR.out.rm.atC bC_len hlt
              have HM := Lib.hid (show More w wr from more_of (by have := HS.out.bel; rw [HN.out] at this; exact this))
              have g0 := HM.out.cell (hc 0 (.int .u8 ms[j]) rfl)
              rw [Nat.add_zero, Nat.mul_one] at g0
              clear hc
              have hbd := HR.out.bm _ (List.getElem_mem hlt)
              generalize ms[j] = x at *
              have hbg := cell_lt g0
              have s0 : wr.drew.cell? ⟨N, 1, none⟩ = some (.slice (some ⟨b, off, none⟩) ms.length mc) := r0
              have s1 : wr.drew.cell? ⟨b, off + j, none⟩ = some (.int .u8 x) := g0
              have hj1 : (j : Int) < (ms.length : Int) := by omega
              go_upto_region 11 with (fail)
              go_region_held3 (fun W => W.cell? ⟨N, 1, none⟩ = some (.slice (some ⟨b, off, none⟩) ms.length mc) ∧ W.cell? ⟨b, off + j, none⟩ = some (.int .u8 x)) (first | with_reducible exact ⟨s0, s1⟩ | with_reducible exact ⟨allocd_cell (a := ⟨N, 1, none⟩) _ r0, allocd_cell (a := ⟨b, off + j, none⟩) _ g0⟩) (fail)
              generalize IntKind.i64.wrap (x.tmod 2) = y0 at *
              generalize IntKind.i64.wrap ((IntKind.u8.wrap (x.tdiv 2)).tmod 3) = y1 at *
              generalize IntKind.i64.wrap ((IntKind.u8.wrap (x.tdiv 6)).tmod 3) = y2 at *
              have HKB := Lib.hid (show ((wr.alloc (.cells #[.int .i64 y0, .int .i64 y1, .int .i64 y2] 57)).drew).heap[wr.heap.size]? = some (.cells #[.int .i64 y0, .int .i64 y1, .int .i64 y2] 57) from alloc_last _ _)
              have HM5 := Lib.hid (show More wr ((wr.alloc (.cells #[.int .i64 y0, .int .i64 y1, .int .i64 y2] 57)).drew) from more_trans (more_alloc _ _) (more_drew _))
              obtain ⟨ha, hcp, rfl, _⟩ := owns_shape HO.out
              clear r0 hrb g0 hbg s0 s1 hbd
              generalize (wr.alloc (.cells #[.int .i64 y0, .int .i64 y1, .int .i64 y2] 57)).drew = w5 at *
              generalize wr.heap.size = KB at *
              have HS5 := Lib.hid (HS.out.more HM5.out)
              have HK5 := Lib.hid (HK.out.more HM5.out)
              have HO5 := Lib.hid (owns_keep HO.out (fun z hz => HM5.out.block (HO.out.lt z hz).2))
              have k0 : w5.cell? ⟨KB, 0, none⟩ = some (.int .i64 y0) := cell_of_blk HKB.out rfl
              have k1 : w5.cell? ⟨KB, 1, none⟩ = some (.int .i64 y1) := cell_of_blk HKB.out rfl
              have k2 : w5.cell? ⟨KB, 2, none⟩ = some (.int .i64 y2) := cell_of_blk HKB.out rfl
              have c0 : w5.cell? ⟨N + 1 + 1 + 1, 1, none⟩ = some (.slice ha m.length hcp) := cell_of_blk HS5.out.cur rfl
              have hkb := cell_lt k0
              have hcb := cell_lt c0
              go_wp2_with fail
              refine (contains60_any m ⟨y0, y1, y2⟩ _ w5 (by omega) ((Row.of_owns HO5.out).mono (fun _ _ => trivial) (fun _ _ _ _ h => h))).mono ?_
              rintro e w6 ⟨⟨q, rfl⟩, hm6⟩
              have HS6 := Lib.hid (HS5.out.more hm6)
              have HK6 := Lib.hid (HK5.out.more hm6)
              have HO6 := Lib.hid (owns_keep HO5.out (fun z hz => hm6.block (HO5.out.lt z hz).2))
              have HKB6 := Lib.hid ((hm6.block (blk_lt HKB.out)).trans HKB.out)
              clear hm6 k0 k1 k2 c0 hkb hcb HS5 HO5 HKB HM5
              cases q with
              | true =>
                go_wp2_with fail
                go_roundw
                case rel => exact ⟨j + 1, m, _, by omega, by omega, by omega, by go_num, HS6, HO6, HK6⟩
                case measure => simp [intOf]; omega
              | false =>
                have k0 : w6.cell? ⟨KB, 0, none⟩ = some (.int .i64 y0) := cell_of_blk HKB6.out rfl
                have k1 : w6.cell? ⟨KB, 1, none⟩ = some (.int .i64 y1) := cell_of_blk HKB6.out rfl
                have k2 : w6.cell? ⟨KB, 2, none⟩ = some (.int .i64 y2) := cell_of_blk HKB6.out rfl
                have c0 : w6.cell? ⟨N + 1 + 1 + 1, 1, none⟩ = some (.slice ha m.length hcp) := cell_of_blk HS6.out.cur rfl
                have hkb := cell_lt k0
                have hcb := cell_lt c0
                have hm1 : m.length + 1 ≤ maxLen := by unfold maxLen; omega
                have hm2 : (m.length + 1) * 24 ≤ 140737488355328 := by omega
                have HO7 := Lib.hid (HO6.out.alloc (.cells #[.int .i64 y0, .int .i64 y1, .int .i64 y2] 57))
                have HS7 := Lib.hid (HS6.out.more (more_alloc _ (.cells #[.int .i64 y0, .int .i64 y1, .int .i64 y2] 57)))
                have HK7 := Lib.hid (HK6.out.more (more_alloc _ (.cells #[.int .i64 y0, .int .i64 y1, .int .i64 y2] 57)))
                have HOZ := Lib.hid (fun z hz => (HO6.out.lt z hz))
                have HSZ := Lib.hid (show N2 ≤ w6.heap.size from HK6.out.1)
                go_wp2_with (at_builtin; refine wpList_append_lies _ rfl _ _ 32 rfl N2 57 i0 _ 3 24 Tryz.underlying32 hi0 hz0 hz1 hz2 rfl (by omega) (.slice ha m.length hcp) m.length (flatC mC m) rfl HO7.out ⟨w6.heap.size, 0, none⟩ 1 1 [.int .i64 y0, .int .i64 y1, .int .i64 y2] rfl rfl (World.news_of_block (cs := #[.int .i64 y0, .int .i64 y1, .int .i64 y2]) (t := 57) (fr := (0, 0)) (alloc_last _ _)) (by simp [Value.oneCell']) (by omega) hm1 hm2 (by rw [World.size_alloc]; exact Nat.le_succ_of_le HSZ.out) (w6.heap.size + 1) (by simp) ?_; intro gg cap8 w8 hown8 hgrow8 hat8 _; have HS8 := Lib.hid (HS7.out.grown hgrow8 (fun z hz => Nat.le_trans HN4.out (HOZ.out z hz).1)); have HK8 := Lib.hid (HK7.out.grown hgrow8 (fun z hz => (HOZ.out z hz).1)); have c8 := cell_of_blk (j := 1) HS8.out.cur rfl; have f8 := frz_of_blk (o := 1) HS8.out.cur; have hb8 := cell_lt c8)
                have HS9 := Lib.hid (HS8.out.set 1 (.slice (some ⟨gg, 0, none⟩) (m.length + 1) cap8) rfl)
                have HK9 := Lib.hid (HK8.out.set (o := 1) (.slice (some ⟨gg, 0, none⟩) (m.length + 1) cap8))
                have HO9 := Lib.hid (owns_set (b := N + 1 + 1 + 1) (o := 1) hown8 (by have := HN4.out; omega) (.slice (some ⟨gg, 0, none⟩) (m.length + 1) cap8))
                have HO10 := Lib.hid (show (w8.setCell ⟨N + 1 + 1 + 1, 1, none⟩ (.slice (some ⟨gg, 0, none⟩) (m.length + 1) cap8)).ownsRow N2 57 3 (.slice (some ⟨gg, 0, none⟩) (m.length + 1) cap8) (m ++ [(⟨y0, y1, y2⟩ : M3)]).length (flatC mC (m ++ [(⟨y0, y1, y2⟩ : M3)])) by rw [List.length_append, List.length_singleton, flatC_push]; exact HO9.out)
                have HLL := Lib.hid (show (m ++ [(⟨y0, y1, y2⟩ : M3)]).length = m.length + 1 by rw [List.length_append, List.length_singleton])
                clear hown8 hgrow8 hat8 c8 f8 hb8 HO9
                go_wp2_with fail
                go_roundw
                case rel => exact ⟨j + 1, m ++ [⟨y0, y1, y2⟩], _, by omega, by omega, by rw [HLL.out]; omega, by go_num, HS9, HO10, HK9⟩
                case measure => simp [intOf]; omega
            · have h3 : ¬ (j : Int) < 2 := by omega
              go_wp2_with fail
              go_meet
              exact ⟨m, h, by omega, HS, HO, HK⟩
          · obtain rfl : j = ms.length := by omega
            go_wp2_with fail
            go_meet
            exact ⟨m, h, by omega, HS, HO, HK⟩
    case rest =>
      obtain ⟨m, h, hm2, HS2, HO2, HK2⟩ := hcut
      obtain ⟨w6, rfl⟩ : ∃ w6 : World, w6 = wc := ⟨_, rfl⟩
      obtain ⟨ua, uc, rfl, HUZ⟩ := owns_shape HO.out
      obtain ⟨ha, hcp, rfl, HHZ⟩ := owns_shape HO2.out
      have r0 : w6.cell? ⟨N + 1, 0, none⟩ = some (.slice none 0 0) := cell_of_blk HS2.out.res rfl
      have r1 : w6.cell? ⟨N + 1, 1, none⟩ = some (.slice none 0 0) := cell_of_blk HS2.out.res rfl
      have q0 : w6.cell? ⟨N + 1 + 1, 0, none⟩ = some (.slice none 0 0) := cell_of_blk HS2.out.ref rfl
      have q1 : w6.cell? ⟨N + 1 + 1, 1, none⟩ = some (.slice none 0 0) := cell_of_blk HS2.out.ref rfl
      have f0 : w6.frozen? ⟨N + 1, 0, none⟩ = false := frz_of_blk HS2.out.res
      have f1 : w6.frozen? ⟨N + 1, 1, none⟩ = false := frz_of_blk HS2.out.res
      have f2 : w6.frozen? ⟨N + 1 + 1, 0, none⟩ = false := frz_of_blk HS2.out.ref
      have f3 : w6.frozen? ⟨N + 1 + 1, 1, none⟩ = false := frz_of_blk HS2.out.ref
      have s0 : w6.drew.cell? ⟨N + 1 + 1 + 1, 0, none⟩ = some (.slice ua l.length uc) := cell_of_blk HS2.out.cur rfl
      have s1 : w6.drew.cell? ⟨N + 1 + 1 + 1, 1, none⟩ = some (.slice ha m.length hcp) := cell_of_blk HS2.out.cur rfl
      have hcb := cell_lt s0
      have hrb := cell_lt r0
      have hqb := cell_lt q0
      go_upto_region 14 with (fail)
      go_region_held3 (fun W => W.cell? ⟨N + 1 + 1 + 1, 0, none⟩ = some (.slice ua l.length uc) ∧ W.cell? ⟨N + 1 + 1 + 1, 1, none⟩ = some (.slice ha m.length hcp)) (first | with_reducible exact ⟨s0, s1⟩ | exact ⟨(by (repeat refine set_cell (by omega) ?_); exact s0), (by (repeat refine set_cell (by omega) ?_); exact s1)⟩) (fail)
      have HFS := Lib.hid (show ∀ (U H : Value) (W : World), W = ((((w6.setCell ⟨N + 1, 0, none⟩ U).setCell ⟨N + 1, 1, none⟩ H).setCell ⟨N + 1 + 1, 0, none⟩ U).setCell ⟨N + 1 + 1, 1, none⟩ H).drew → W.heap[N + 1]? = some (.cells #[U, H] 34) ∧ W.heap[N + 1 + 1]? = some (.cells #[U, H] 72) ∧ Below N w W ∧ ∀ b, N + 4 ≤ b → W.heap[b]? = w6.heap[b]? from fun U H W hW => by
        have a1 := heap_set (o := 1) (heap_set (o := 0) HS2.out.res U) H
        have a2 := (Below.heap_setCell ((w6.setCell ⟨N + 1, 0, none⟩ U).setCell ⟨N + 1, 1, none⟩ H) ⟨N + 1 + 1, 0, none⟩ U (N + 1) (show N + 1 ≠ N + 1 + 1 by omega)).trans a1
        have a3 := (Below.heap_setCell (((w6.setCell ⟨N + 1, 0, none⟩ U).setCell ⟨N + 1, 1, none⟩ H).setCell ⟨N + 1 + 1, 0, none⟩ U) ⟨N + 1 + 1, 1, none⟩ H (N + 1) (show N + 1 ≠ N + 1 + 1 by omega)).trans a2
        have d1 := (Below.heap_setCell w6 ⟨N + 1, 0, none⟩ U (N + 1 + 1) (show N + 1 + 1 ≠ N + 1 by omega)).trans HS2.out.ref
        have d2 := (Below.heap_setCell (w6.setCell ⟨N + 1, 0, none⟩ U) ⟨N + 1, 1, none⟩ H (N + 1 + 1) (show N + 1 + 1 ≠ N + 1 by omega)).trans d1
        have d3 := heap_set (o := 1) (heap_set (o := 0) d2 U) H
        subst hW
        refine ⟨a3, d3, ?_, fun b hb => ?_⟩
        · exact ((((HS2.out.bel.setCell (p := ⟨N + 1, 0, none⟩) (by show N ≤ N + 1; omega) U).setCell (p := ⟨N + 1, 1, none⟩) (by show N ≤ N + 1; omega) H).setCell (p := ⟨N + 1 + 1, 0, none⟩) (by show N ≤ N + 1 + 1; omega) U).setCell (p := ⟨N + 1 + 1, 1, none⟩) (by show N ≤ N + 1 + 1; omega) H).trans (below_drewN _ 1 _)
        · refine (Below.heap_setCell _ ⟨N + 1 + 1, 1, none⟩ H b (show b ≠ N + 1 + 1 by omega)).trans ?_
          refine (Below.heap_setCell _ ⟨N + 1 + 1, 0, none⟩ U b (show b ≠ N + 1 + 1 by omega)).trans ?_
          refine (Below.heap_setCell _ ⟨N + 1, 1, none⟩ H b (show b ≠ N + 1 by omega)).trans ?_
          exact Below.heap_setCell _ ⟨N + 1, 0, none⟩ U b (show b ≠ N + 1 by omega))
      obtain ⟨W7, hW7⟩ : ∃ W7, W7 = ((((w6.setCell ⟨N + 1, 0, none⟩ (.slice ua l.length uc)).setCell ⟨N + 1, 1, none⟩ (.slice ha m.length hcp)).setCell ⟨N + 1 + 1, 0, none⟩ (.slice ua l.length uc)).setCell ⟨N + 1 + 1, 1, none⟩ (.slice ha m.length hcp)).drew := ⟨_, rfl⟩
      obtain ⟨z1, z2, hbw, hkp⟩ := HFS.out _ _ W7 hW7
      rw [← hW7]
      clear hW7 HFS r0 r1 q0 q1 f0 f1 f2 f3 s0 s1 hcb hrb hqb
      have HU7 := Lib.hid (owns_keep HO.out (fun z hz => (hkp z (HUZ z hz).1).trans (HK2.out.keep z (HUZ z hz).1 (by rw [HN2.out]; exact (HUZ z hz).2))))
      have HH7 := Lib.hid (owns_keep HO2.out (fun z hz => hkp z (Nat.le_trans HN4.out (HHZ z hz).1)))
      have HBW := Lib.hid hbw
      have c0 : W7.cell? ⟨N + 1, 0, none⟩ = some (.slice ua l.length uc) := cell_of_blk z1 rfl
      have c1 : W7.cell? ⟨N + 1, 1, none⟩ = some (.slice ha m.length hcp) := cell_of_blk z1 rfl
      have d0 : W7.cell? ⟨N + 1 + 1, 0, none⟩ = some (.slice ua l.length uc) := cell_of_blk z2 rfl
      have d1 : W7.cell? ⟨N + 1 + 1, 1, none⟩ = some (.slice ha m.length hcp) := cell_of_blk z2 rfl
      clear z1 z2 hkp hbw
      go_wp2_with fail
      refine bodyPost_ret (v := .tuple #[.agg #[.slice ua l.length uc, .slice ha m.length hcp], .agg #[.slice ua l.length uc, .slice ha m.length hcp]]) (by simp [results, Tryz.results26, go_sem, c0, c1, d0, d1]) rfl ?_
      refine ⟨⟨⟨l, m⟩, _, _, rfl, ?_⟩, by rw [← HN.out]; exact HBW.out⟩
      rw [← HN.out]
      exact ⟨(Row.of_owns HU7.out).mono (fun b hb => by omega) (fun _ _ _ _ h => h), (Row.of_owns HH7.out).mono (fun b hb => by have := HN4.out; omega) (fun _ _ _ _ h => h), owns_nil HU7.out, owns_nil HH7.out, by have := HL3.out; show l.length ≤ 12; omega, by show m.length ≤ 12; omega⟩
end Go.Proofs.YtemeppfikpafbaaGreat

