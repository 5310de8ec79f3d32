/- Texts OfG, laid together. -/
import Derived.Deep.MidRow
import Derived.Deep.CutBlock
import Derived.Test.YtemeppfikpafbaaGreatDoorBo
import Derived.Test.YtemeppfikpafbaaGreatDoorBp
/- rootcauselaw50.of (49): a certificate out of any raw one. -/
namespace Go.Proofs.YtemeppfikpafbaaGreatDoor
open Go.RowKit
/-- What the certificate laws know besides of a certificate that of returns. -/
structure CertOk (arr : Array Value) (c : Cert) : Prop where
  fl : ∀ i, i < 32 → ∃ n : Int, arr[i]? = some (.int .u8 n) ∧ 0 ≤ n ∧ n ≤ 255
  un : ∀ k ∈ c.U, k.OkG
  si : ∀ p ∈ c.S, ∀ n ∈ p.2.l, In64 n
  hi : ∀ p ∈ c.H, ∀ a ∈ p.2.al, ∀ n ∈ a.2.l, In64 n
  q : c.q.size ≤ 2100
/-- The certificate that is being made, in block CB; its rows lie in blocks from M on. -/
structure OfB (wb : World) (CB M : Nat) (q : ByteArray) (hor : Int) (sv : Value) (wit spl : Int) (arr : Array Value) (uv hv : Value) (W : World) : Prop where
  blk : W.heap[CB]? = some (.cells arr 35)
  size : arr.size = 39
  q : arr[32]? = some (.string q)
  hor : arr[33]? = some (.int .i64 hor)
  sv : arr[34]? = some sv
  uv : arr[35]? = some uv
  hv : arr[36]? = some hv
  wit : arr[37]? = some (.int .i64 wit)
  spl : arr[38]? = some (.int .i64 spl)
  fl : ∀ i, i < 32 → ∃ n : Int, arr[i]? = some (.int .u8 n) ∧ 0 ≤ n ∧ n ≤ 255
  low : Below CB wb W
  ms : M ≤ W.heap.size
  cm : CB < M
theorem OfB.more {wb : World} {CB M : Nat} {q : ByteArray} {hor : Int} {sv : Value} {wit spl : Int} {arr : Array Value} {uv hv : Value} {W W' : World} (h : OfB wb CB M q hor sv wit spl arr uv hv W) (hm : More W W') : OfB wb CB M q hor sv wit spl arr uv hv W' :=
  ⟨(hm.block (blk_lt h.blk)).trans h.blk, h.size, h.q, h.hor, h.sv, h.uv, h.hv, h.wit, h.spl, h.fl, h.low.trans (hm.below.mono (by have := blk_lt h.blk; omega)), Nat.le_trans h.ms hm.size, h.cm⟩
theorem OfB.grow {wb : World} {CB M : Nat} {q : ByteArray} {hor : Int} {sv : Value} {wit spl : Int} {arr : Array Value} {uv hv : Value} {W W' : World} {g : Option Nat} (h : OfB wb CB M q hor sv wit spl arr uv hv W) (hg : W.grownBy W' g) (hm : ∀ z, g = some z → M ≤ z) : OfB wb CB M q hor sv wit spl arr uv hv W' :=
  ⟨(hg.block CB (blk_lt h.blk) (fun e => by have := hm CB e.symm; have := h.cm; omega)).trans h.blk, h.size, h.q, h.hor, h.sv, h.uv, h.hv, h.wit, h.spl, h.fl, h.low.grown hg (by have := blk_lt h.blk; omega) (fun z hz => by have := hm z hz; have := h.cm; omega), Nat.le_trans h.ms hg.size, h.cm⟩
theorem set_ne {arr : Array Value} {i j : Nat} {v : Value} (h : i ≠ j) : (arr.setIfInBounds i v)[j]? = arr[j]? := Array.getElem?_setIfInBounds_ne h
theorem set_eq {arr : Array Value} {i : Nat} {v : Value} (h : i < arr.size) : (arr.setIfInBounds i v)[i]? = some v := Array.getElem?_setIfInBounds_self_of_lt h
theorem OfB.setU {wb : World} {CB M : Nat} {q : ByteArray} {hor : Int} {sv : Value} {wit spl : Int} {arr : Array Value} {uv hv : Value} {W : World} (h : OfB wb CB M q hor sv wit spl arr uv hv W) (u : Value) : OfB wb CB M q hor sv wit spl (arr.setIfInBounds 35 u) u hv (W.setCell ⟨CB, 35, none⟩ u) :=
  ⟨setCell_heap h.blk, by rw [Array.size_setIfInBounds]; exact h.size, (set_ne (by decide)).trans h.q, (set_ne (by decide)).trans h.hor, (set_ne (by decide)).trans h.sv, set_eq (by rw [h.size]; decide), (set_ne (by decide)).trans h.hv, (set_ne (by decide)).trans h.wit, (set_ne (by decide)).trans h.spl, fun i hi => by
    rw [set_ne (by omega)]; exact h.fl i hi, h.low.setCell (p := ⟨CB, 35, none⟩) (Nat.le_refl _) _, by rw [World.size_setCell]; exact h.ms, h.cm⟩
theorem OfB.setH {wb : World} {CB M : Nat} {q : ByteArray} {hor : Int} {sv : Value} {wit spl : Int} {arr : Array Value} {uv hv : Value} {W : World} (h : OfB wb CB M q hor sv wit spl arr uv hv W) (u : Value) : OfB wb CB M q hor sv wit spl (arr.setIfInBounds 36 u) uv u (W.setCell ⟨CB, 36, none⟩ u) :=
  ⟨setCell_heap h.blk, by rw [Array.size_setIfInBounds]; exact h.size, (set_ne (by decide)).trans h.q, (set_ne (by decide)).trans h.hor, (set_ne (by decide)).trans h.sv, (set_ne (by decide)).trans h.uv, set_eq (by rw [h.size]; decide), (set_ne (by decide)).trans h.wit, (set_ne (by decide)).trans h.spl, fun i hi => by
    rw [set_ne (by omega)]; exact h.fl i hi, h.low.setCell (p := ⟨CB, 36, none⟩) (Nat.le_refl _) _, by rw [World.size_setCell]; exact h.ms, h.cm⟩
/-- A row apart from what grows, and from block CB. -/
theorem Row.apt {W W' : World} {C n CB o : Nat} {v g g' u : Value} {xs : List Value} (hC : 0 < C) (h : Row (fun b => g.ownBlock ≠ some b ∧ CB < b) W C n v xs) (hg : W.grownBy W' g.ownBlock) (hv : ∀ z, g'.ownBlock = some z → g.ownBlock = some z ∨ z = W.heap.size) : Row (fun b => g'.ownBlock ≠ some b ∧ CB < b) (W'.setCell ⟨CB, o, none⟩ u) C n v xs :=
  (h.lt hC).mono (fun b hb => ⟨fun e => by
    rcases hv b e with h1 | h1
    · exact hb.1.1 h1
    · have := hb.2; omega, hb.1.2⟩) (fun b off x hb hc => by
    rw [← hc]; exact World.cell?_of_block (w := W) (a := ⟨b, off, none⟩) ((Below.heap_setCell _ _ _ _ (Nat.ne_of_gt hb.1.2)).trans (hg.block b hb.2 (fun e => hb.1.1 e.symm))))
def b8C (n : Int) : List Value := [.int .u8 n]
theorem b8C_len (n : Int) : (b8C n).length = 1 := rfl
theorem OfB.ones {wb : World} {CB M : Nat} {q : ByteArray} {hor : Int} {wit spl : Int} {arr : Array Value} {sa ua : Option Addr} {sl sc ul uc : Nat} {hv : Value} {W : World} (h : OfB wb CB M q hor (.slice sa sl sc) wit spl arr (.slice ua ul uc) hv W) (hh : ∃ a n c, hv = .slice a n c) : arr.all (·.oneCell') = true := by
  obtain ⟨_, _, _, rfl⟩ := hh
  rw [Array.all_eq_true_iff_forall_mem]
  intro v hv
  obtain ⟨i, hi, e⟩ := Array.getElem_of_mem hv
  have hsz := h.size
  have hg : arr[i]? = some v := by rw [← e]; exact Array.getElem?_eq_getElem hi
  by_cases h32 : i < 32
  · obtain ⟨n, hn, _⟩ := h.fl i h32
    rw [hn] at hg; cases hg; rfl
  · have hj : i = 32 ∨ i = 33 ∨ i = 34 ∨ i = 35 ∨ i = 36 ∨ i = 37 ∨ i = 38 := by omega
    rcases hj with rfl | rfl | rfl | rfl | rfl | rfl | rfl
    · rw [h.q] at hg; cases hg; rfl
    · rw [h.hor] at hg; cases hg; rfl
    · rw [h.sv] at hg; cases hg; rfl
    · rw [h.uv] at hg; cases hg; rfl
    · rw [h.hv] at hg; cases hg; rfl
    · rw [h.wit] at hg; cases hg; rfl
    · rw [h.spl] at hg; cases hg; rfl
theorem results49_at {W : World} {B : Nat} {A : Array Value} (hld : (loadVar 35 ⟨B, 0, none⟩).run Tryz.prog W = .ok (.agg A) W) (tmps : Array Value) (h2 : tmps[2]? = some (.pointer (some ⟨B, 0, none⟩))) (h3 : tmps[3]? = some (.bool true)) : (results Tryz.f5 tmps).run Tryz.prog W = .ok (.tuple #[.agg A, .bool true]) W := by
  simp [results, Tryz.results5, asAddr, h2, h3, hld]
theorem owns_sl {w : World} {B : Nat} {e : TypeId} {n size : Nat} {v : Value} {xs : List Value} (h : w.ownsRow B e size v n xs) : ∃ a m c, v = .slice a m c := by
  obtain ⟨a, c, h1, _⟩ := owns_shape h
  exact ⟨a, n, c, h1⟩
theorem KeyOk.okG {k : K4} (h : KeyOk k) : k.OkG := by
  have hb := h.b1
  unfold topB at hb
  have hb7 : k.b ≤ 7 := by split at hb <;> (try split at hb) <;> omega
  have := h.k0; have := h.k1; have := h.a0; have := h.a1; have := h.b0; have := h.n0; have := h.n1
  refine ⟨by omega, ?_, ?_, ?_⟩ <;> unfold In64 <;> omega
theorem setCells4 {W : World} {B : Nat} {arr : Array Value} {ty : TypeId} {a b c d : Value} (h : W.heap[B]? = some (.cells arr ty)) : (W.setCells B 0 [a, b, c, d]).heap[B]? = some (.cells ((((arr.setIfInBounds 0 a).setIfInBounds 1 b).setIfInBounds 2 c).setIfInBounds 3 d) ty) :=
  setCell_heap (setCell_heap (setCell_heap (setCell_heap h)))
theorem below_setCells4 {B : Nat} {w W : World} {a b c d : Value} (h : Below B w W) : Below B w (W.setCells B 0 [a, b, c, d]) :=
  (((h.setCell (p := ⟨B, 0, none⟩) (Nat.le_refl _) a).setCell (p := ⟨B, 1, none⟩) (Nat.le_refl _) b).setCell (p := ⟨B, 2, none⟩) (Nat.le_refl _) c).setCell (p := ⟨B, 3, none⟩) (Nat.le_refl _) d
def a7 (f0 f1 f2 f3 : Int) (q : ByteArray) (hor wit spl : Int) (sv : Value) : Array Value := #[.int .u8 f0, .int .u8 f1, .int .u8 f2, .int .u8 f3, .int .u8 0, .int .u8 0, .int .u8 0, .int .u8 0, .int .u8 0, .int .u8 0, .int .u8 0, .int .u8 0, .int .u8 0, .int .u8 0, .int .u8 0, .int .u8 0, .int .u8 0, .int .u8 0, .int .u8 0, .int .u8 0, .int .u8 0, .int .u8 0, .int .u8 0, .int .u8 0, .int .u8 0, .int .u8 0, .int .u8 0, .int .u8 0, .int .u8 0, .int .u8 0, .int .u8 0, .int .u8 0, .string q, .int .i64 hor, sv, .slice none 0 0, .slice none 0 0, .int .i64 wit, .int .i64 spl]
theorem a7_fl {f0 f1 f2 f3 : Int} {q : ByteArray} {hor wit spl : Int} {sv : Value} (h0 : 0 ≤ f0 ∧ f0 ≤ 255) (h1 : 0 ≤ f1 ∧ f1 ≤ 255) (h2 : 0 ≤ f2 ∧ f2 ≤ 255) (h3 : 0 ≤ f3 ∧ f3 ≤ 255) : ∀ i, i < 32 → ∃ n : Int, (a7 f0 f1 f2 f3 q hor wit spl sv)[i]? = some (.int .u8 n) ∧ 0 ≤ n ∧ n ≤ 255 := by
  intro i hi
  have e : a7 f0 f1 f2 f3 q hor wit spl sv = ((([.int .u8 f0, .int .u8 f1, .int .u8 f2, .int .u8 f3] : List Value) ++ List.replicate 28 (Value.int .u8 0)) ++ ([.string q, .int .i64 hor, sv, .slice none 0 0, .slice none 0 0, .int .i64 wit, .int .i64 spl] : List Value)).toArray := by kernel_rfl
  rw [e, List.getElem?_toArray]
  by_cases h4 : i < 4
  · have h : i = 0 ∨ i = 1 ∨ i = 2 ∨ i = 3 := by omega
    rcases h with rfl | rfl | rfl | rfl
    · exact ⟨f0, rfl, h0⟩
    · exact ⟨f1, rfl, h1⟩
    · exact ⟨f2, rfl, h2⟩
    · exact ⟨f3, rfl, h3⟩
  · rw [List.getElem?_append_left (by simp; omega), List.getElem?_append_right (by simp; omega), List.getElem?_replicate, if_pos (by simp; omega)]
    exact ⟨0, rfl, by omega, by omega⟩
theorem room32b {n : Nat} (h : n ≤ 1003) : n ≤ maxLen ∧ n * 32 ≤ 140737488355328 := by unfold maxLen; omega
set_option maxRecDepth 100000 in
set_option maxHeartbeats 20000000 in
theorem of49_any (x : RawC) (w : World) (hx : x.Ok w) :
    Calls Tryz.prog 5 #[.agg x.cells.toArray] w fun e w' => (∃ arr c, e = .returned (.tuple #[.agg arr, .bool true]) ∧ CertAt w' arr c ∧ CertOk arr c) ∧ Below w.heap.size w w' := by
  obtain ⟨⟨b0, b1, b2, b3⟩, q, hor, wit, spl, cv, C, uv, U, hv, H, ov, O⟩ := x
  obtain ⟨⟨⟨f0, h0, hf0⟩, ⟨f1, h1, hf1⟩, ⟨f2, h2, hf2⟩, ⟨f3, h3, hf3⟩⟩, hqs, _, _, _, rC, eC, lC, rU, eU, lU, rH, eH, lH, rO, eO, lO⟩ := hx
  dsimp only at *
  subst h0 h1 h2 h3
  obtain ⟨ca, cc, rfl, _⟩ := rC.shape
  obtain ⟨ua, uc, rfl, _⟩ := rU.shape
  obtain ⟨ha, hcp, rfl, _⟩ := rH.shape
  obtain ⟨oa, oc, rfl, _⟩ := rO.shape
  have HFB := Lib.hid (And.intro hf0 (And.intro hf1 (And.intro hf2 hf3))); clear hf0 hf1 hf2 hf3
  have HRC := Lib.hid (And.intro rC (And.intro eC lC)); clear rC eC lC
  have HRU := Lib.hid (And.intro rU (And.intro eU lU)); clear rU eU lU
  have HRH := Lib.hid (And.intro rH (And.intro eH lH)); clear rH eH lH
  have HRO := Lib.hid (And.intro rO (And.intro eO lO)); clear rO eO lO
  have HQS := Lib.hid hqs; clear hqs
  obtain ⟨i0, hi0, hz0, hz1, hz2⟩ := info_parts infoK
  obtain ⟨i1, hi1, hy0, hy1, hy2⟩ := info_parts infoH
  obtain ⟨N, HN⟩ : ∃ N, Hid (N = w.heap.size) := ⟨_, Lib.hid rfl⟩
  obtain ⟨hB, hR, hML⟩ := boxed2 w (.cells #[.int .u8 f0, .int .u8 f1, .int .u8 f2, .int .u8 f3, .string q, .int .i64 hor, .int .i64 wit, .int .i64 spl, .slice ca C.length cc, .slice ua U.length uc, .slice ha H.length hcp, .slice oa O.length oc] 28) (.cells #[.int .u8 0, .int .u8 0, .int .u8 0, .int .u8 0, .int .u8 0, .int .u8 0, .int .u8 0, .int .u8 0, .int .u8 0, .int .u8 0, .int .u8 0, .int .u8 0, .int .u8 0, .int .u8 0, .int .u8 0, .int .u8 0, .int .u8 0, .int .u8 0, .int .u8 0, .int .u8 0, .int .u8 0, .int .u8 0, .int .u8 0, .int .u8 0, .int .u8 0, .int .u8 0, .int .u8 0, .int .u8 0, .int .u8 0, .int .u8 0, .int .u8 0, .int .u8 0, .string (ByteArray.mk #[]), .int .i64 0, .slice none 0 0, .slice none 0 0, .slice none 0 0, .int .i64 0, .int .i64 0] 35)
  have HXB := Lib.hid hB; have HRB := Lib.hid hR; have HM1 := Lib.hid hML.1
  clear hB hR hML
  show Calls Tryz.prog 5 #[.agg #[.int .u8 f0, .int .u8 f1, .int .u8 f2, .int .u8 f3, .string q, .int .i64 hor, .int .i64 wit, .int .i64 spl, .slice ca C.length cc, .slice ua U.length uc, .slice ha H.length hcp, .slice oa O.length oc]] w _
  rw [← HN.out] at HXB HRB ⊢
  go_enter Tryz.func5, Tryz.ntmps5
  go_upto_region 1 with (fail)
  rw [← HN.out]
  generalize (w.alloc (.cells #[.int .u8 f0, .int .u8 f1, .int .u8 f2, .int .u8 f3, .string q, .int .i64 hor, .int .i64 wit, .int .i64 spl, .slice ca C.length cc, .slice ua U.length uc, .slice ha H.length hcp, .slice oa O.length oc] 28)).alloc (.cells #[.int .u8 0, .int .u8 0, .int .u8 0, .int .u8 0, .int .u8 0, .int .u8 0, .int .u8 0, .int .u8 0, .int .u8 0, .int .u8 0, .int .u8 0, .int .u8 0, .int .u8 0, .int .u8 0, .int .u8 0, .int .u8 0, .int .u8 0, .int .u8 0, .int .u8 0, .int .u8 0, .int .u8 0, .int .u8 0, .int .u8 0, .int .u8 0, .int .u8 0, .int .u8 0, .int .u8 0, .int .u8 0, .int .u8 0, .int .u8 0, .int .u8 0, .int .u8 0, .string (ByteArray.mk #[]), .int .i64 0, .slice none 0 0, .slice none 0 0, .slice none 0 0, .int .i64 0, .int .i64 0] 35) = w2 at *
  have x8 : w2.cell? ⟨N, 8, none⟩ = some (.slice ca C.length cc) := cell_of_blk HXB.out rfl
  have hbx := cell_lt x8
  have HCH := Lib.hid (choices91_any C _ w2 (HRC.out.1.below HM1.out.below) (fun p hp => (HRC.out.2.1 p hp).arg.more HM1.out) (fun p hp => (HRC.out.2.1 p hp).key.kind) HRC.out.2.2 (fun p hp => (HRC.out.2.1 p hp).len) (fun p hp n hn => (HRC.out.2.1 p hp).i64 n hn))
  go_wp2_with fail
  refine HCH.out.mono ?_
  rintro e w3 ⟨⟨v3, S3, rfl, hrow, hasc, hall, hlen⟩, hb3⟩
  obtain ⟨sa, sc, rfl, _⟩ := hrow.shape
  have HM3 := Lib.hid (more_trans HM1.out (more_of hb3))
  have HXB3 := Lib.hid (((more_of hb3).block (blk_lt HXB.out)).trans HXB.out)
  have HRB3 := Lib.hid (((more_of hb3).block (blk_lt HRB.out)).trans HRB.out)
  have HS3 := Lib.hid (show SetAt anyB w3 (.slice sa S3.length sc) S3 from ⟨hrow, fun p hp => (hall p hp).2.2.2, fun p hp => (hall p hp).1, hasc, by omega⟩)
  have HI3 := Lib.hid (show ∀ p ∈ S3, ∀ n ∈ p.2.l, In64 n from fun p hp n hn => (hall p hp).2.2.1 n hn)
  clear hrow hasc hall hlen hb3 x8 hbx HCH
  have HC92 := Lib.hid (set92_gen S3 _ w3 HS3.out)
  go_wp2_with fail
  refine HC92.out.mono ?_
  rintro e w4 ⟨⟨v4, S, rfl, hset, hmap⟩, hb4⟩
  obtain ⟨ta, tc, rfl, _⟩ := hset.row.shape
  have HM4 := Lib.hid (more_trans HM3.out (more_of hb4))
  have HXB4 := Lib.hid (((more_of hb4).block (blk_lt HXB3.out)).trans HXB3.out)
  have HRB4 := Lib.hid (((more_of hb4).block (blk_lt HRB3.out)).trans HRB3.out)
  have HS4 := Lib.hid (show SetAt anyB w4 (.slice ta S.length tc) S from hset.any)
  have HS4S := Lib.hid hset
  have HIS := Lib.hid (show ∀ p ∈ S, ∀ n ∈ p.2.l, In64 n from fun p hp n hn => by
    have h1 : p.2 ∈ S.map (·.2) := List.mem_map.2 ⟨p, hp, rfl⟩
    rw [hmap] at h1
    obtain ⟨r, hr, e⟩ := List.mem_map.1 h1
    rw [← e] at hn
    exact HI3.out r hr n hn)
  clear hset hmap hb4 HC92
  obtain ⟨S5, HSE⟩ : ∃ S5, Hid (S5 = w4.heap.size) := ⟨_, Lib.hid rfl⟩
  have HB5 := Lib.hid (alloc_last w4 (.cells #[.slice ta S.length tc] 33))
  have HM5 := Lib.hid (more_alloc w4 (.cells #[.slice ta S.length tc] 33))
  go_upto_region 3 with (fail)
  generalize w4.alloc (.cells #[.slice ta S.length tc] 33) = wb at *
  rw [← HSE.out] at HB5 ⊢
  have HMB := Lib.hid (more_trans HM4.out HM5.out)
  have HXBB := Lib.hid ((HM5.out.block (blk_lt HXB4.out)).trans HXB4.out)
  have HRB6 := Lib.hid ((HM5.out.block (blk_lt HRB4.out)).trans HRB4.out)
  obtain ⟨CB, HCB⟩ : ∃ CB, Hid (CB = wb.heap.size) := ⟨_, Lib.hid rfl⟩
  have b0 : wb.cell? ⟨S5, 0, none⟩ = some (.slice ta S.length tc) := cell_of_blk HB5.out rfl
  have hb0 := cell_lt b0
  have x4 : wb.cell? ⟨N, 4, none⟩ = some (.string q) := cell_of_blk HXBB.out rfl
  have x5 : wb.cell? ⟨N, 5, none⟩ = some (.int .i64 hor) := cell_of_blk HXBB.out rfl
  have x6 : wb.cell? ⟨N, 6, none⟩ = some (.int .i64 wit) := cell_of_blk HXBB.out rfl
  have x7 : wb.cell? ⟨N, 7, none⟩ = some (.int .i64 spl) := cell_of_blk HXBB.out rfl
  have hbx := cell_lt x4
  go_cut [7] (fun p wx => ∃ qq : ByteArray, p = .pointer (some ⟨CB, 0, none⟩) ∧ Hid (qq.size ≤ 2100) ∧ Hid (wx.heap[CB]? = some (.cells #[.int .u8 0, .int .u8 0, .int .u8 0, .int .u8 0, .int .u8 0, .int .u8 0, .int .u8 0, .int .u8 0, .int .u8 0, .int .u8 0, .int .u8 0, .int .u8 0, .int .u8 0, .int .u8 0, .int .u8 0, .int .u8 0, .int .u8 0, .int .u8 0, .int .u8 0, .int .u8 0, .int .u8 0, .int .u8 0, .int .u8 0, .int .u8 0, .int .u8 0, .int .u8 0, .int .u8 0, .int .u8 0, .int .u8 0, .int .u8 0, .int .u8 0, .int .u8 0, .string qq, .int .i64 hor, .slice ta S.length tc, .slice none 0 0, .slice none 0 0, .int .i64 wit, .int .i64 spl] 35)) ∧ Hid (More wb wx))
  case first =>
    have HK := Lib.hid (show ∀ W, More wb W → (W.cell? ⟨S5, 0, none⟩ = some (.slice ta S.length tc) ∧ W.cell? ⟨N, 4, none⟩ = some (.string q) ∧ W.cell? ⟨N, 5, none⟩ = some (.int .i64 hor) ∧ W.cell? ⟨N, 6, none⟩ = some (.int .i64 wit) ∧ W.cell? ⟨N, 7, none⟩ = some (.int .i64 spl)) from fun W h => ⟨h.cell b0, h.cell x4, h.cell x5, h.cell x6, h.cell x7⟩)
    have HLD := Lib.hid (more_drew wb)
    have hm0 : 0 ≤ min (q.size : Int) 2100 := by omega
    have hm1 : min (q.size : Int) 2100 ≤ (q.size : Int) := by omega
    refine wp_region_held_drew (S := fun W => W.cell? ⟨S5, 0, none⟩ = some (.slice ta S.length tc) ∧ W.cell? ⟨N, 4, none⟩ = some (.string q) ∧ W.cell? ⟨N, 5, none⟩ = some (.int .i64 hor) ∧ W.cell? ⟨N, 6, none⟩ = some (.int .i64 wit) ∧ W.cell? ⟨N, 7, none⟩ = some (.int .i64 spl)) (by kernel_rfl) (HK.out _ HLD.out) (fun hHeld => ?_)
    refine wpAnyH_take (i := 0) (v := ?_) (by simp only [List.getElem?_toArray, List.getElem?_cons_zero]; exact rfl) (by kernel_rfl) (by kernel_rfl) (by kernel_rfl) (by exact fun _ _ _ h => h) (Or.inl ⟨by kernel_rfl, ?_⟩) hHeld ?_
    rotate_left
    · intro w hSw
      (try dsimp only at hSw)
      first | (go_simp; done) | (go_simp; with_reducible rfl)
    (try simp only [Act.put, List.setIfInBounds_toArray, List.set_cons_zero, List.set_cons_succ])
    refine wpAnyH_take (i := 1) (v := ?_) (by simp only [List.getElem?_toArray, List.getElem?_cons_succ, List.getElem?_cons_zero]; exact rfl) (by kernel_rfl) (by kernel_rfl) (by kernel_rfl) (by exact fun _ _ _ h => h) (Or.inl ⟨by kernel_rfl, ?_⟩) hHeld ?_
    rotate_left
    · intro w hSw
      (try dsimp only at hSw)
      first | (go_simp; done) | (go_simp; with_reducible rfl)
    (try simp only [Act.put, List.setIfInBounds_toArray, List.set_cons_zero, List.set_cons_succ])
    refine wpAnyH_take (i := 2) (v := ?_) (by simp only [List.getElem?_toArray, List.getElem?_cons_succ, List.getElem?_cons_zero]; exact rfl) (by kernel_rfl) (by kernel_rfl) (by kernel_rfl) (by exact fun _ _ _ h => h) (Or.inl ⟨by kernel_rfl, ?_⟩) hHeld ?_
    rotate_left
    · intro w hSw
      (try dsimp only at hSw)
      first | (go_simp; done) | (go_simp; with_reducible rfl)
    (try simp only [Act.put, List.setIfInBounds_toArray, List.set_cons_zero, List.set_cons_succ])
    refine wpAnyH_take (i := 3) (v := ?_) (by simp only [List.getElem?_toArray, List.getElem?_cons_succ, List.getElem?_cons_zero]; exact rfl) (by kernel_rfl) (by kernel_rfl) (by kernel_rfl) (by exact fun _ _ _ h => h) (Or.inl ⟨by kernel_rfl, ?_⟩) hHeld ?_
    rotate_left
    · intro w hSw
      (try dsimp only at hSw)
      first | (go_simp; done) | (go_simp; with_reducible rfl)
    (try simp only [Act.put, List.setIfInBounds_toArray, List.set_cons_zero, List.set_cons_succ])
    refine wpAnyH_take (i := 4) (v := ?_) (by simp only [List.getElem?_toArray, List.getElem?_cons_succ, List.getElem?_cons_zero]; exact rfl) (by kernel_rfl) (by kernel_rfl) (by kernel_rfl) (by exact fun _ _ _ h => h) (Or.inl ⟨by kernel_rfl, ?_⟩) hHeld ?_
    rotate_left
    · intro w hSw
      (try dsimp only at hSw)
      first | (go_simp; done) | (go_simp; with_reducible rfl)
    (try simp only [Act.put, List.setIfInBounds_toArray, List.set_cons_zero, List.set_cons_succ])
    refine wpAnyH_take (i := 5) (v := ?_) (by simp only [List.getElem?_toArray, List.getElem?_cons_succ, List.getElem?_cons_zero]; exact rfl) (by kernel_rfl) (by kernel_rfl) (by kernel_rfl) (by exact fun _ _ _ h => h) (Or.inl ⟨by kernel_rfl, ?_⟩) hHeld ?_
    rotate_left
    · intro w hSw
      (try dsimp only at hSw)
      first | (go_simp; done) | (go_simp; with_reducible rfl)
    (try simp only [Act.put, List.setIfInBounds_toArray, List.set_cons_zero, List.set_cons_succ])
    refine wpAnyH_take (i := 6) (v := ?_) (by simp only [List.getElem?_toArray, List.getElem?_cons_succ, List.getElem?_cons_zero]; exact rfl) (by kernel_rfl) (by kernel_rfl) (by kernel_rfl) (by exact fun _ _ _ h => h) (Or.inl ⟨by kernel_rfl, ?_⟩) hHeld ?_
    rotate_left
    · intro w hSw
      (try dsimp only at hSw)
      first | (go_simp; done) | (go_simp; with_reducible rfl)
    (try simp only [Act.put, List.setIfInBounds_toArray, List.set_cons_zero, List.set_cons_succ])
    refine wpAnyH_take (i := 7) (v := ?_) (by simp only [List.getElem?_toArray, List.getElem?_cons_succ, List.getElem?_cons_zero]; exact rfl) (by kernel_rfl) (by kernel_rfl) (by kernel_rfl) (by exact fun _ _ _ h => h) (Or.inl ⟨by kernel_rfl, ?_⟩) hHeld ?_
    rotate_left
    · intro w hSw
      (try dsimp only at hSw)
      first | (go_simp; done) | (go_simp; with_reducible rfl)
    (try simp only [Act.put, List.setIfInBounds_toArray, List.set_cons_zero, List.set_cons_succ])
    refine wpAnyH_take (i := 8) (v := ?_) (by simp only [List.getElem?_toArray, List.getElem?_cons_succ, List.getElem?_cons_zero]; exact rfl) (by kernel_rfl) (by kernel_rfl) (by kernel_rfl) (by exact fun _ _ _ h => h) (Or.inl ⟨by kernel_rfl, ?_⟩) hHeld ?_
    rotate_left
    · intro w hSw
      (try dsimp only at hSw)
      first | (go_simp; done) | (go_simp; with_reducible rfl)
    (try simp only [Act.put, List.setIfInBounds_toArray, List.set_cons_zero, List.set_cons_succ])
    refine wpAnyH_take (i := 9) (v := ?_) (by simp only [List.getElem?_toArray, List.getElem?_cons_succ, List.getElem?_cons_zero]; exact rfl) (by kernel_rfl) (by kernel_rfl) (by kernel_rfl) (by exact fun _ _ _ h => h) (Or.inl ⟨by kernel_rfl, ?_⟩) hHeld ?_
    rotate_left
    · intro w hSw
      (try dsimp only at hSw)
      first | (go_simp; done) | (go_simp; with_reducible rfl)
    (try simp only [Act.put, List.setIfInBounds_toArray, List.set_cons_zero, List.set_cons_succ])
    refine wpAnyH_take (i := 10) (v := ?_) (by simp only [List.getElem?_toArray, List.getElem?_cons_succ, List.getElem?_cons_zero]; exact rfl) (by kernel_rfl) (by kernel_rfl) (by kernel_rfl) (by exact fun _ _ _ h => h) (Or.inl ⟨by kernel_rfl, ?_⟩) hHeld ?_
    rotate_left
    · intro w hSw
      (try dsimp only at hSw)
      first | (go_simp; done) | (go_simp; with_reducible rfl)
    (try simp only [Act.put, List.setIfInBounds_toArray, List.set_cons_zero, List.set_cons_succ])
    refine wpAnyH_take (i := 11) (v := ?_) (by simp only [List.getElem?_toArray, List.getElem?_cons_succ, List.getElem?_cons_zero]; exact rfl) (by kernel_rfl) (by kernel_rfl) (by kernel_rfl) (by exact fun _ _ _ h => h) (Or.inl ⟨by kernel_rfl, ?_⟩) hHeld ?_
    rotate_left
    · intro w hSw
      (try dsimp only at hSw)
      first | (go_simp; done) | (go_simp; with_reducible rfl)
    (try simp only [Act.put, List.setIfInBounds_toArray, List.set_cons_zero, List.set_cons_succ])
    refine wpAnyH_take (i := 12) (v := ?_) (by simp only [List.getElem?_toArray, List.getElem?_cons_succ, List.getElem?_cons_zero]; exact rfl) (by kernel_rfl) (by kernel_rfl) (by kernel_rfl) (by exact fun _ _ _ h => h) (Or.inl ⟨by kernel_rfl, ?_⟩) hHeld ?_
    rotate_left
    · intro w hSw
      (try dsimp only at hSw)
      first | (go_simp; done) | (go_simp; with_reducible rfl)
    (try simp only [Act.put, List.setIfInBounds_toArray, List.set_cons_zero, List.set_cons_succ])
    refine wpAnyH_take (i := 13) (v := ?_) (by simp only [List.getElem?_toArray, List.getElem?_cons_succ, List.getElem?_cons_zero]; exact rfl) (by kernel_rfl) (by kernel_rfl) (by kernel_rfl) (by exact fun _ _ _ h => h) (Or.inl ⟨by kernel_rfl, ?_⟩) hHeld ?_
    rotate_left
    · intro w hSw
      (try dsimp only at hSw)
      first | (go_simp; done) | (go_simp; with_reducible rfl)
    (try simp only [Act.put, List.setIfInBounds_toArray, List.set_cons_zero, List.set_cons_succ])
    refine wpAnyH_take (i := 14) (v := ?_) (by simp only [List.getElem?_toArray, List.getElem?_cons_succ, List.getElem?_cons_zero]; exact rfl) (by kernel_rfl) (by kernel_rfl) (by kernel_rfl) (by exact fun _ _ _ h => h) (Or.inl ⟨by kernel_rfl, ?_⟩) hHeld ?_
    rotate_left
    · intro w hSw
      (try dsimp only at hSw)
      first | (go_simp; done) | (go_simp; with_reducible rfl)
    (try simp only [Act.put, List.setIfInBounds_toArray, List.set_cons_zero, List.set_cons_succ])
    have HQZ := Lib.hid (show (q.extract 0 (min (q.size : Int) 2100).toNat).size ≤ 2100 by rw [ByteArray.size_extract]; omega)
    generalize q.extract 0 (min (q.size : Int) 2100).toNat = qq at *
    refine wpAnyH_ready (rs := [15]) (by kernel_rfl) (by simp) ?_
    refine AllReadyH.cons (by simp only [List.getElem?_toArray, List.getElem?_cons_succ, List.getElem?_cons_zero]; exact rfl) (fun K hK => ?_) AllReadyH.nil
    rw [if_pos (by kernel_rfl)]
    go_simp
    have HLA := Lib.hid (show More wb ((wb.alloc (.cells #[.int .u8 0, .int .u8 0, .int .u8 0, .int .u8 0, .int .u8 0, .int .u8 0, .int .u8 0, .int .u8 0, .int .u8 0, .int .u8 0, .int .u8 0, .int .u8 0, .int .u8 0, .int .u8 0, .int .u8 0, .int .u8 0, .int .u8 0, .int .u8 0, .int .u8 0, .int .u8 0, .int .u8 0, .int .u8 0, .int .u8 0, .int .u8 0, .int .u8 0, .int .u8 0, .int .u8 0, .int .u8 0, .int .u8 0, .int .u8 0, .int .u8 0, .int .u8 0, .string (ByteArray.mk #[]), .int .i64 0, .slice none 0 0, .slice none 0 0, .slice none 0 0, .int .i64 0, .int .i64 0] 35)).drew) from more_trans (more_alloc _ _) (more_drew _))
    refine hK.out _ _ (HK.out _ HLA.out) (fun hHeld => ?_)
    clear hK K
    (try simp only [Act.put, List.setIfInBounds_toArray, List.set_cons_zero, List.set_cons_succ])
    have HZ := Lib.hid (show ((wb.alloc (.cells #[.int .u8 0, .int .u8 0, .int .u8 0, .int .u8 0, .int .u8 0, .int .u8 0, .int .u8 0, .int .u8 0, .int .u8 0, .int .u8 0, .int .u8 0, .int .u8 0, .int .u8 0, .int .u8 0, .int .u8 0, .int .u8 0, .int .u8 0, .int .u8 0, .int .u8 0, .int .u8 0, .int .u8 0, .int .u8 0, .int .u8 0, .int .u8 0, .int .u8 0, .int .u8 0, .int .u8 0, .int .u8 0, .int .u8 0, .int .u8 0, .int .u8 0, .int .u8 0, .string (ByteArray.mk #[]), .int .i64 0, .slice none 0 0, .slice none 0 0, .slice none 0 0, .int .i64 0, .int .i64 0] 35)).drew).heap[wb.heap.size]? = some (.cells #[.int .u8 0, .int .u8 0, .int .u8 0, .int .u8 0, .int .u8 0, .int .u8 0, .int .u8 0, .int .u8 0, .int .u8 0, .int .u8 0, .int .u8 0, .int .u8 0, .int .u8 0, .int .u8 0, .int .u8 0, .int .u8 0, .int .u8 0, .int .u8 0, .int .u8 0, .int .u8 0, .int .u8 0, .int .u8 0, .int .u8 0, .int .u8 0, .int .u8 0, .int .u8 0, .int .u8 0, .int .u8 0, .int .u8 0, .int .u8 0, .int .u8 0, .int .u8 0, .string (ByteArray.mk #[]), .int .i64 0, .slice none 0 0, .slice none 0 0, .slice none 0 0, .int .i64 0, .int .i64 0] 35) from alloc_last wb _)
    have hdz2 : wb.heap.size = CB := HCB.out.symm
    rw [hdz2] at HZ
    try rw [hdz2]
    generalize (wb.alloc (.cells #[.int .u8 0, .int .u8 0, .int .u8 0, .int .u8 0, .int .u8 0, .int .u8 0, .int .u8 0, .int .u8 0, .int .u8 0, .int .u8 0, .int .u8 0, .int .u8 0, .int .u8 0, .int .u8 0, .int .u8 0, .int .u8 0, .int .u8 0, .int .u8 0, .int .u8 0, .int .u8 0, .int .u8 0, .int .u8 0, .int .u8 0, .int .u8 0, .int .u8 0, .int .u8 0, .int .u8 0, .int .u8 0, .int .u8 0, .int .u8 0, .int .u8 0, .int .u8 0, .string (ByteArray.mk #[]), .int .i64 0, .slice none 0 0, .slice none 0 0, .slice none 0 0, .int .i64 0, .int .i64 0] 35)).drew = wA at *
    have hN : N ≠ CB := by have := blk_lt HXBB.out; omega
    have hS5 : S5 ≠ CB := by have := blk_lt HB5.out; omega
    refine wpAnyH_ready (rs := [16]) (by kernel_rfl) (by simp) ?_
    refine AllReadyH.cons (by simp only [List.getElem?_toArray, List.getElem?_cons_succ, List.getElem?_cons_zero]; exact rfl) (fun K hK => ?_) AllReadyH.nil
    rw [if_pos (by kernel_rfl)]
    refine wp_store_row 35 _ _ rfl CB #[.int .u8 0, .int .u8 0, .int .u8 0, .int .u8 0, .int .u8 0, .int .u8 0, .int .u8 0, .int .u8 0, .int .u8 0, .int .u8 0, .int .u8 0, .int .u8 0, .int .u8 0, .int .u8 0, .int .u8 0, .int .u8 0, .int .u8 0, .int .u8 0, .int .u8 0, .int .u8 0, .int .u8 0, .int .u8 0, .int .u8 0, .int .u8 0, .int .u8 0, .int .u8 0, .int .u8 0, .int .u8 0, .int .u8 0, .int .u8 0, .int .u8 0, .int .u8 0, .string qq, .int .i64 hor, .slice ta S.length tc, .slice none 0 0, .slice none 0 0, .int .i64 wit, .int .i64 spl] rfl rfl 35 _ HZ.out (by exact info98) (by kernel_rfl) (by kernel_rfl) ?_
    have hHeld2 := HK.out _ HLA.out
    refine hK.out _ _ ⟨by rw [cell_setRow_other _ _ _ _ (by exact hS5)]; exact hHeld2.1, by rw [cell_setRow_other _ _ _ _ (by exact hN)]; exact hHeld2.2.1, by rw [cell_setRow_other _ _ _ _ (by exact hN)]; exact hHeld2.2.2.1, by rw [cell_setRow_other _ _ _ _ (by exact hN)]; exact hHeld2.2.2.2.1, by rw [cell_setRow_other _ _ _ _ (by exact hN)]; exact hHeld2.2.2.2.2⟩ (fun hHeld => ?_)
    clear hK K
    (try simp only [Act.put])
    refine wpAnyH_done (by kernel_rfl) ?_ _
    go_wp2_with fail
    go_meet
    case rel => exact ⟨qq, rfl, HQZ, Lib.hid (setRow_heap wA CB _ _ 35 (0, 0) HZ.out), Lib.hid (more_of (below_setRow HLA.out.below (by rw [← HCB.out]; exact Nat.le_refl _) _))⟩
  case rest =>
    obtain ⟨qq, rfl, HQZ, HA0, HMC⟩ := hcut
    obtain ⟨w6, rfl⟩ : ∃ w6 : World, w6 = wc := ⟨_, rfl⟩
    clear b0 hb0 x4 x5 x6 x7 hbx
    have HXB6 := Lib.hid ((HMC.out.block (blk_lt HXBB.out)).trans HXBB.out)
    have HM6 := Lib.hid (more_trans HMB.out HMC.out)
    have hcopy := run_copy_cells (P := Tryz.prog) w6.drew 26 26 3 5 CB 0 32 32 ⟨N, 0, none⟩ 4 4 [.int .u8 f0, .int .u8 f1, .int .u8 f2, .int .u8 f3] Tryz.underlying26 (by kernel_rfl) rfl (fun j v hj => by
        rw [Addr.add_mid, Nat.zero_add]
        refine (more_drew w6).cell (cell_of_blk HXB6.out ?_)
        match j, hj with
        | 0, h => exact h
        | 1, h => exact h
        | 2, h => exact h
        | 3, h => exact h)
      (fun j hj => by rw [Nat.zero_add, (more_drew w6).cell (cell_of_blk HA0.out (Array.getElem?_eq_getElem (by simp at hj ⊢; omega)))]; rfl) (fun j _ => thaw (((more_drew w6).block (blk_lt HA0.out)).trans HA0.out) _) (by simp [Value.oneCell'])
    go_upto_region 4 with (fail)
    refine wp_region_held_drew (S := fun W => True) (by kernel_rfl) trivial (fun hHeld => ?_)
    refine wpAnyH_take (i := 0) (v := ?_) (by simp only [List.getElem?_toArray, List.getElem?_cons_zero]; exact rfl) (by kernel_rfl) (by kernel_rfl) (by kernel_rfl) (by exact fun _ _ _ h => h) (Or.inl ⟨by kernel_rfl, ?_⟩) hHeld ?_
    rotate_left
    · intro w hSw
      (try dsimp only at hSw)
      first | (go_simp; done) | (go_simp; with_reducible rfl)
    (try simp only [Act.put, List.setIfInBounds_toArray, List.set_cons_zero, List.set_cons_succ])
    refine wpAnyH_take (i := 1) (v := ?_) (by simp only [List.getElem?_toArray, List.getElem?_cons_succ, List.getElem?_cons_zero]; exact rfl) (by kernel_rfl) (by kernel_rfl) (by kernel_rfl) (by exact fun _ _ _ h => h) (Or.inl ⟨by kernel_rfl, ?_⟩) hHeld ?_
    rotate_left
    · intro w hSw
      (try dsimp only at hSw)
      first | (go_simp; done) | (go_simp; with_reducible rfl)
    (try simp only [Act.put, List.setIfInBounds_toArray, List.set_cons_zero, List.set_cons_succ])
    refine wpAnyH_take (i := 2) (v := ?_) (by simp only [List.getElem?_toArray, List.getElem?_cons_succ, List.getElem?_cons_zero]; exact rfl) (by kernel_rfl) (by kernel_rfl) (by kernel_rfl) (by exact fun _ _ _ h => h) (Or.inl ⟨by kernel_rfl, ?_⟩) hHeld ?_
    rotate_left
    · intro w hSw
      (try dsimp only at hSw)
      first | (go_simp; done) | (go_simp; with_reducible rfl)
    (try simp only [Act.put, List.setIfInBounds_toArray, List.set_cons_zero, List.set_cons_succ])
    refine wpAnyH_take (i := 3) (v := ?_) (by simp only [List.getElem?_toArray, List.getElem?_cons_succ, List.getElem?_cons_zero]; exact rfl) (by kernel_rfl) (by kernel_rfl) (by kernel_rfl) (by exact fun _ _ _ h => h) (Or.inl ⟨by kernel_rfl, ?_⟩) hHeld ?_
    rotate_left
    · intro w hSw
      (try dsimp only at hSw)
      first | (go_simp; done) | (go_simp; with_reducible rfl)
    (try simp only [Act.put, List.setIfInBounds_toArray, List.set_cons_zero, List.set_cons_succ])
    refine wpAnyH_ready (rs := [4]) (by kernel_rfl) (by simp) ?_
    refine AllReadyH.cons (by simp only [List.getElem?_toArray, List.getElem?_cons_succ, List.getElem?_cons_zero]; exact rfl) (fun K hK => ?_) AllReadyH.nil
    rw [if_pos (by kernel_rfl)]
    go_simp
    refine hK.out _ _ trivial (fun hHeld => ?_)
    clear hK K
    (try simp only [Act.put, List.setIfInBounds_toArray, List.set_cons_zero, List.set_cons_succ])
    refine wpAnyH_done (by kernel_rfl) ?_ _
    have HA7 := Lib.hid (show (w6.drew.setCells CB 0 [.int .u8 f0, .int .u8 f1, .int .u8 f2, .int .u8 f3]).heap[CB]? = some (.cells (a7 f0 f1 f2 f3 qq hor wit spl (.slice ta S.length tc)) 35) from (setCells4 (((more_drew w6).block (blk_lt HA0.out)).trans HA0.out)).trans (by kernel_rfl))
    have HL7 := Lib.hid (show Below CB wb (w6.drew.setCells CB 0 [.int .u8 f0, .int .u8 f1, .int .u8 f2, .int .u8 f3]) from below_setCells4 (by rw [HCB.out]; exact (more_trans HMC.out (more_drew w6)).below))
    clear hcopy
    generalize w6.drew.setCells CB 0 [.int .u8 f0, .int .u8 f1, .int .u8 f2, .int .u8 f3] = w7 at *
    obtain ⟨M, HMM⟩ : ∃ M, Hid (M = w7.heap.size) := ⟨_, Lib.hid rfl⟩
    have HOB7 := Lib.hid (show OfB wb CB M qq hor (.slice ta S.length tc) wit spl (a7 f0 f1 f2 f3 qq hor wit spl (.slice ta S.length tc)) (.slice none 0 0) (.slice none 0 0) w7 from ⟨HA7.out, rfl, rfl, rfl, rfl, rfl, rfl, rfl, rfl, a7_fl HFB.out.1 HFB.out.2.1 HFB.out.2.2.1 HFB.out.2.2.2, HL7.out, by rw [HMM.out]; exact Nat.le_refl _, by rw [HMM.out]; exact blk_lt HA7.out⟩)
    have HNC := Lib.hid (show N < CB by have := blk_lt HXBB.out; rw [HCB.out]; exact this)
    have HSC := Lib.hid (show S5 < CB by have := blk_lt HB5.out; rw [HCB.out]; exact this)
    have HWC := Lib.hid (show w.heap.size ≤ CB by rw [HCB.out]; exact HMB.out.size)
    clear HA7 HL7 HA0
    generalize a7 f0 f1 f2 f3 qq hor wit spl (.slice ta S.length tc) = A0 at *
    have HMWF := Lib.hid (show ∀ W, Below CB wb W → More w W from fun W h => more_of (HMB.out.below.trans (h.mono HWC.out)))
    have HXF := Lib.hid (show ∀ W, Below CB wb W → W.heap[N]? = some (.cells #[.int .u8 f0, .int .u8 f1, .int .u8 f2, .int .u8 f3, .string q, .int .i64 hor, .int .i64 wit, .int .i64 spl, .slice ca C.length cc, .slice ua U.length uc, .slice ha H.length hcp, .slice oa O.length oc] 28) from fun W h => (h.block N HNC.out).trans HXBB.out)
    go_wp2_with fail
    go_loopw [8] (fun i wr => ∃ (j : Nat) (o : List K4) (u : Value) (A : Array Value), j ≤ U.length ∧ j ≤ 5 ∧ i = .int .i64 j ∧ Hid (OfB wb CB M qq hor (.slice ta S.length tc) wit spl A u (.slice none 0 0) wr) ∧ Hid (wr.ownsRow M 53 4 u o.length (flatC kC o)) ∧ Hid (o.length = j) ∧ Hid (∀ k ∈ o, k.OkG)) (fun i _ => U.length - (intOf i).toNat)
    case atStart => exact ⟨0, [], .slice none 0 0, A0, Nat.zero_le _, by omega, rfl, HOB7, Lib.hid (World.ownsRow_nil _ _ _ _), Lib.hid rfl, Lib.hid (fun k h => by simp at h)⟩
    case round =>
      obtain ⟨j, o, u, A, hj, hj5, rfl, HOB, HO, HOL, HOK⟩ := hrel
      obtain ⟨wo, rfl⟩ : ∃ wo : World, wo = wr := ⟨_, rfl⟩
      have HXo := Lib.hid (HXF.out wo HOB.out.low)
      have HMW := Lib.hid (HMWF.out wo HOB.out.low)
      have hul := Lib.hid HRU.out.2.2
      have x9 : wo.cell? ⟨N, 9, none⟩ = some (.slice ua U.length uc) := cell_of_blk HXo.out rfl
      have hbx := cell_lt x9
      obtain ⟨z, HZ⟩ : ∃ z, Hid (decide (j < U.length ∧ j < 5) = z) := ⟨_, Lib.hid rfl⟩
      have HJ5 := Lib.hid hj5
      go_upto_region 6 with (fail)
      go_cut [48] (fun s wx => s = .bool z ∧ Hid (wo = wx))
      case first =>
        by_cases hlt : j < U.length
        · have hlt' : (j : Int) < U.length := by omega
          by_cases h5 : j < 5
          · have h5' : (j : Int) < 5 := by omega
            have hz : z = true := by rw [← HZ.out]; simp only [decide_eq_true_eq]; omega
            subst hz
            go_wp2_with fail
            go_meet
            case rel => exact ⟨by first | rfl | trivial, Lib.hid rfl⟩
          · have hz : z = false := by rw [← HZ.out]; simp only [decide_eq_false_iff_not]; omega
            obtain rfl : j = 5 := by omega
            clear h5
            subst hz
            go_wp2_with fail
            go_meet
            case rel => exact ⟨by first | rfl | trivial, Lib.hid rfl⟩
        · have hz : z = false := by rw [← HZ.out]; simp only [decide_eq_false_iff_not]; omega
          obtain rfl : j = U.length := by omega
          clear hlt
          subst hz
          go_wp2_with fail
          go_meet
          case rel => exact ⟨by first | rfl | trivial, Lib.hid rfl⟩
      case rest =>
        obtain ⟨rfl, hwc⟩ := hcut
        have hwc := hwc.out
        subst hwc
        cases z with
        | true =>
          have hgo := of_decide_eq_true HZ.out
          have hlt := hgo.1
          have HLT := Lib.hid hgo; clear hgo
          obtain ⟨b, off, rfl, _, hc⟩ := HRU.out.1.atC kC_len hlt
          have e0 := HMW.out.cell (hc 0 (.int .u8 U[j].kind) rfl)
          have e1 := HMW.out.cell (hc 1 (.int .i64 U[j].a) rfl)
          have e2 := HMW.out.cell (hc 2 (.int .i64 U[j].b) rfl)
          have e3 := HMW.out.cell (hc 3 (.int .i64 U[j].n) rfl)
          rw [Nat.add_zero] at e0
          clear hc
          have hxk := HRU.out.2.1 _ (List.getElem_mem hlt)
          generalize U[j] = x at *
          have hbe := cell_lt e0
          have hjw : (j : Int) < U.length := by omega
          have HXK := Lib.hid hxk; clear hxk
          obtain ⟨va, vc, rfl, _⟩ := owns_shape HO.out
          obtain ⟨on, HON⟩ : ∃ on, Hid (o.length = on) := ⟨_, Lib.hid rfl⟩
          have HO9 := HO.out
          have HUV := HOB.out.uv
          rw [HON.out] at HO9 HUV
          have c35 : wo.cell? ⟨CB, 35, none⟩ = some (.slice va on vc) := cell_of_blk HOB.out.blk HUV
          have hbc := cell_lt c35
          have HMZ := Lib.hid (show More wo ((wo.alloc (.cells #[.int .u8 x.kind, .int .i64 x.a, .int .i64 x.b, .int .i64 x.n] 53)).drew) from more_trans (more_alloc _ _) (more_drew _))
          have nA : ((wo.alloc (.cells #[.int .u8 x.kind, .int .i64 x.a, .int .i64 x.b, .int .i64 x.n] 53)).drew).cell? ⟨CB, 35, none⟩ = some (.slice va on vc) := HMZ.out.cell c35
          have HOZ := Lib.hid (show ((wo.alloc (.cells #[.int .u8 x.kind, .int .i64 x.a, .int .i64 x.b, .int .i64 x.n] 53)).drew).ownsRow M 53 4 (.slice va on vc) on (flatC kC o) from owns_keep HO9 (fun z hz => HMZ.out.block (HO9.lt z hz).2))
          have HOBZ := Lib.hid (HOB.out.more HMZ.out)
          have HR9 := Lib.hid (room32b (n := on + 1) (by have h1 := HOL.out; have h2 := HON.out; omega))
          have HO8 := Lib.hid HO9; clear HO9
          have HUV9 := Lib.hid HUV; clear HUV
          go_upto_region 8 with (fail)
          go_region_law (first | (refine step_append_lies _ (by rfl) _ _ _ (by rfl) M 53 i0 _ 4 32 Tryz.underlying24 hi0 hz0 hz1 hz2 (by rfl) (by omega) (.slice va on vc) on (flatC kC o) (by rfl) HOZ.out ⟨wo.heap.size, 0, none⟩ 1 1 [.int .u8 x.kind, .int .i64 x.a, .int .i64 x.b, .int .i64 x.n] (by rfl) (by rfl) (World.news_of_block (cs := #[.int .u8 x.kind, .int .i64 x.a, .int .i64 x.b, .int .i64 x.n]) (t := 53) (fr := (0, 0)) (alloc_last _ _)) (by simp [Value.oneCell']) (by omega) HR9.out.1 HR9.out.2 HOBZ.out.ms (wo.heap.size + 1) (by simp) ?_; intro gg cap8 wB hownB hgrowB hatB _; have HBB := Lib.hid (HOBZ.out.grow hgrowB (fun z hz => (HO8.out.lt z hz).1)); have dB : wB.cell? ⟨CB, 35, none⟩ = some (.slice va on vc) := cell_of_blk HBB.out.blk HUV9.out; have fB := thaw HBB.out.blk 35; have hbB := cell_lt dB))
          all_goals
            have HBF := Lib.hid (HBB.out.setU (.slice (some ⟨gg, 0, none⟩) (on + 1) cap8))
            have HOF := Lib.hid (show (wB.setCell ⟨CB, 35, none⟩ (.slice (some ⟨gg, 0, none⟩) (on + 1) cap8)).ownsRow M 53 4 (.slice (some ⟨gg, 0, none⟩) (on + 1) cap8) (o ++ [x]).length (flatC kC (o ++ [x])) from by
              rw [List.length_append, List.length_singleton, HON.out, flatC_push]
              exact owns_keep hownB (fun z hz => Below.heap_setCell _ _ _ _ (show z ≠ CB from by have := (hownB.lt z hz).1; have := HOBZ.out.cm; omega)))
            have HKF := Lib.hid (show ∀ k ∈ o ++ [x], k.OkG from fun k hk => by
              rcases List.mem_append.1 hk with h | h
              · exact HOK.out k h
              · rw [List.mem_singleton] at h; subst h; exact HXK.out)
            have HLF := Lib.hid (show (o ++ [x]).length = o.length + 1 by rw [List.length_append, List.length_singleton])
            clear hownB hgrowB hatB dB fB hbB c35 nA hbc e0 e1 e2 e3 hbe x9 hbx
            have hlt9 := HLT.out
            go_wp2_with fail
            go_roundw
            case rel => exact ⟨j + 1, o ++ [x], _, _, by omega, by have := HLT.out.2; omega, by go_num, HBF, HOF, Lib.hid (by rw [HLF.out, HOL.out]), HKF⟩
            case measure => have := HLT.out; simp [intOf]; omega
        | false =>
          clear x9 hbx
          have HBo := Lib.hid ((HOB.out.low.block S5 HSC.out).trans HB5.out)
          have s5 : wo.cell? ⟨S5, 0, none⟩ = some (.slice ta S.length tc) := cell_of_blk HBo.out rfl
          have hb5 := cell_lt s5
          have HC93 := Lib.hid (keys93_gen S _ wo (HS4.out.more (more_of ((HM5.out.below).trans (HOB.out.low.mono (by have := HCB.out; have := HM5.out.size; omega))))))
          go_wp2_with fail
          refine HC93.out.mono ?_
          rintro e w8 ⟨⟨kv, rfl, hko⟩, hb8⟩
          have HOB8 := Lib.hid (HOB.out.more (more_of hb8))
          have HO8 := Lib.hid (owns_keep HO.out (fun z hz => (more_of hb8).block (HO.out.lt z hz).2))
          have HKR8 := Lib.hid (show Row (fun b => u.ownBlock ≠ some b ∧ CB < b) w8 4 _ kv (flatC kC (keysG S)) from (Row.of_owns hko).mono (fun b hb => ⟨fun e => by have := (HO.out.lt b e).2; omega, by have := blk_lt HOB.out.blk; omega⟩) (fun _ _ _ _ h => h))
          obtain ⟨kl, HKL⟩ : ∃ kl, Hid ((keysG S).length = kl) := ⟨_, Lib.hid rfl⟩
          obtain ⟨ka, kc, rfl, _⟩ := owns_shape hko
          have HKB := Lib.hid (show kl ≤ 96 by rw [← HKL.out]; unfold keysG; rw [List.length_map]; exact HS4.out.len)
          have HKV := Lib.hid (show ∀ k ∈ keysG S, k.OkG from fun k hk => by
            obtain ⟨p, hp, rfl⟩ := List.mem_map.1 hk
            exact (HS4.out.ok p hp).key.okG)
          clear hko hb8 s5 hb5 HC93 hj hj5 HZ
          rw [HKL.out] at HKR8 ⊢
          have hkb := HKB.out
          have HOL8 := Lib.hid (show o.length ≤ 5 by rw [HOL.out]; exact HJ5.out)
          go_wp2_with fail
          go_loopw [10] (fun i wr => ∃ (j : Nat) (o : List K4) (u : Value) (A : Array Value), j ≤ O.length ∧ j ≤ 4 ∧ i = .int .i64 j ∧ Hid (OfB wb CB M qq hor (.slice ta S.length tc) wit spl A u (.slice none 0 0) wr) ∧ Hid (wr.ownsRow M 53 4 u o.length (flatC kC o)) ∧ Hid (o.length ≤ 5 + j) ∧ Hid (∀ k ∈ o, k.OkG) ∧ Hid (Row (fun b => u.ownBlock ≠ some b ∧ CB < b) wr 4 kl (.slice ka kl kc) (flatC kC (keysG S)))) (fun i _ => O.length - (intOf i).toNat)
          case atStart => exact ⟨0, o, u, A, Nat.zero_le _, by omega, rfl, HOB8, HO8, Lib.hid (by have := HOL8.out; omega), HOK, HKR8⟩
          case round =>
            clear HOB8 HO8 HOL8 HKR8 HOB HO HOL HOK
            obtain ⟨j, o, u, A, hj, hj4, rfl, HOB, HO, HOL, HOK, HKR⟩ := hrel
            obtain ⟨wo, rfl⟩ : ∃ wo : World, wo = wr := ⟨_, rfl⟩
            have HXo := Lib.hid (HXF.out wo HOB.out.low)
            have HMW := Lib.hid (HMWF.out wo HOB.out.low)
            have x11 : wo.cell? ⟨N, 11, none⟩ = some (.slice oa O.length oc) := cell_of_blk HXo.out rfl
            have hbx := cell_lt x11
            obtain ⟨z, HZ⟩ : ∃ z, Hid (decide (j < O.length ∧ j < 4 ∧ 0 < kl) = z) := ⟨_, Lib.hid rfl⟩
            have HJ4 := Lib.hid hj4
            go_upto_region 11 with (fail)
            go_cut [76] (fun s wx => s = .bool z ∧ Hid (wo = wx))
            case first =>
              by_cases hlt : j < O.length
              · have hlt' : (j : Int) < O.length := by omega
                by_cases h4 : j < 4
                · have h4' : (j : Int) < 4 := by omega
                  by_cases hk0 : 0 < kl
                  · have hk0' : (0 : Int) < kl := by omega
                    have hz : z = true := by rw [← HZ.out]; simp only [decide_eq_true_eq]; omega
                    subst hz
                    go_wp2_with fail
                    go_meet
                    case rel => exact ⟨by first | rfl | trivial, Lib.hid rfl⟩
                  · have hz : z = false := by rw [← HZ.out]; simp only [decide_eq_false_iff_not]; omega
                    obtain rfl : kl = 0 := by omega
                    clear hk0
                    subst hz
                    go_wp2_with fail
                    go_meet
                    case rel => exact ⟨by first | rfl | trivial, Lib.hid rfl⟩
                · have hz : z = false := by rw [← HZ.out]; simp only [decide_eq_false_iff_not]; omega
                  obtain rfl : j = 4 := by omega
                  clear h4
                  subst hz
                  go_wp2_with fail
                  go_meet
                  case rel => exact ⟨by first | rfl | trivial, Lib.hid rfl⟩
              · have hz : z = false := by rw [← HZ.out]; simp only [decide_eq_false_iff_not]; omega
                obtain rfl : j = O.length := by omega
                clear hlt
                subst hz
                go_wp2_with fail
                go_meet
                case rel => exact ⟨by first | rfl | trivial, Lib.hid rfl⟩
            case rest =>
              obtain ⟨rfl, hwc⟩ := hcut
              have hwc := hwc.out
              subst hwc
              cases z with
              | true =>
                have hgo := of_decide_eq_true HZ.out
                have hlt := hgo.1
                have HLT := Lib.hid hgo; clear hgo
                have hro : Row anyB w 1 O.length (.slice oa O.length oc) (flatC b8C O) := HRO.out.1
                obtain ⟨b, off, rfl, _, hc⟩ := hro.atC b8C_len hlt
                clear hro
                have e0 := HMW.out.cell (hc 0 (.int .u8 O[j]) rfl)
                rw [Nat.add_zero, Nat.mul_one] at e0
                clear hc
                have hn := HRO.out.2.1 _ (List.getElem_mem hlt)
                generalize O[j] = n at *
                have hbe := cell_lt e0
                have hjw : (j : Int) < O.length := by omega
                obtain ⟨nn, rfl⟩ : ∃ nn : Nat, n = nn := ⟨n.toNat, by omega⟩
                have hk0 := HLT.out.2.2
                have hp : nn % kl < kl := Nat.mod_lt _ hk0
                have hrem : Int.tmod (nn : Int) (kl : Int) = ((nn % kl : Nat) : Int) := by rw [Int.tmod_eq_emod_of_nonneg (by omega)]; exact (Int.natCast_emod nn kl).symm
                generalize nn % kl = p at *
                have hkn : ¬ kl = 0 := by omega
                have hwn : IntKind.i64.wrap (nn : Int) = nn := by rw [IntKind.wrap_i64]; omega
                have hkz : ((kl : Int) == 0) = false := beq_eq_false_iff_ne.2 (by omega)
                have hpi : (p : Int) < kl := by omega
                have hpl : p < (keysG S).length := by rw [HKL.out]; exact hp
                have hkr := HKR.out
                rw [← HKL.out] at hkr
                obtain ⟨b2, off2, hka, _, hc⟩ := hkr.atC kC_len hpl
                rw [HKL.out] at hkr
                subst hka
                have g0 := hc 0 (.int .u8 (keysG S)[p].kind) rfl
                have g1 := hc 1 (.int .i64 (keysG S)[p].a) rfl
                have g2 := hc 2 (.int .i64 (keysG S)[p].b) rfl
                have g3 := hc 3 (.int .i64 (keysG S)[p].n) rfl
                rw [Nat.add_zero] at g0
                clear hc hkr
                have hxk := HKV.out _ (List.getElem_mem hpl)
                generalize (keysG S)[p] = x at *
                clear hpl
                have hbg := cell_lt g0
                have hkb := HKB.out
                have HXK := Lib.hid hxk; clear hxk
                obtain ⟨va, vc, rfl, _⟩ := owns_shape HO.out
                obtain ⟨on, HON⟩ : ∃ on, Hid (o.length = on) := ⟨_, Lib.hid rfl⟩
                have HO9 := HO.out
                have HUV := HOB.out.uv
                rw [HON.out] at HO9 HUV
                have c35 : wo.cell? ⟨CB, 35, none⟩ = some (.slice va on vc) := cell_of_blk HOB.out.blk HUV
                have hbc := cell_lt c35
                have HMZ := Lib.hid (show More wo ((wo.alloc (.cells #[.int .u8 x.kind, .int .i64 x.a, .int .i64 x.b, .int .i64 x.n] 53)).drew) from more_trans (more_alloc _ _) (more_drew _))
                have nA : ((wo.alloc (.cells #[.int .u8 x.kind, .int .i64 x.a, .int .i64 x.b, .int .i64 x.n] 53)).drew).cell? ⟨CB, 35, none⟩ = some (.slice va on vc) := HMZ.out.cell c35
                have HOZ := Lib.hid (show ((wo.alloc (.cells #[.int .u8 x.kind, .int .i64 x.a, .int .i64 x.b, .int .i64 x.n] 53)).drew).ownsRow M 53 4 (.slice va on vc) on (flatC kC o) from owns_keep HO9 (fun z hz => HMZ.out.block (HO9.lt z hz).2))
                have HOBZ := Lib.hid (HOB.out.more HMZ.out)
                have HR9 := Lib.hid (room32b (n := on + 1) (by have h1 := HOL.out; have h2 := HON.out; omega))
                have hkr9 := HKR.out
                rw [HON.out] at hkr9
                have HKR8 := Lib.hid hkr9; clear hkr9
                have HO8 := Lib.hid HO9; clear HO9
                have HUV9 := Lib.hid HUV; clear HUV
                go_upto_region 13 with (fail)
                go_region_law (first | (refine step_append_lies _ (by rfl) _ _ _ (by rfl) M 53 i0 _ 4 32 Tryz.underlying24 hi0 hz0 hz1 hz2 (by rfl) (by omega) (.slice va on vc) on (flatC kC o) (by rfl) HOZ.out ⟨wo.heap.size, 0, none⟩ 1 1 [.int .u8 x.kind, .int .i64 x.a, .int .i64 x.b, .int .i64 x.n] (by rfl) (by rfl) (World.news_of_block (cs := #[.int .u8 x.kind, .int .i64 x.a, .int .i64 x.b, .int .i64 x.n]) (t := 53) (fr := (0, 0)) (alloc_last _ _)) (by simp [Value.oneCell']) (by omega) HR9.out.1 HR9.out.2 HOBZ.out.ms (wo.heap.size + 1) (by simp) ?_; intro gg cap8 wB hownB hgrowB hatB _; have HBB := Lib.hid (HOBZ.out.grow hgrowB (fun z hz => (HO8.out.lt z hz).1)); have dB : wB.cell? ⟨CB, 35, none⟩ = some (.slice va on vc) := cell_of_blk HBB.out.blk HUV9.out; have fB := thaw HBB.out.blk 35; have hbB := cell_lt dB))
                all_goals
                  have HBF := Lib.hid (HBB.out.setU (.slice (some ⟨gg, 0, none⟩) (on + 1) cap8))
                  have HOF := Lib.hid (show (wB.setCell ⟨CB, 35, none⟩ (.slice (some ⟨gg, 0, none⟩) (on + 1) cap8)).ownsRow M 53 4 (.slice (some ⟨gg, 0, none⟩) (on + 1) cap8) (o ++ [x]).length (flatC kC (o ++ [x])) from by
                    rw [List.length_append, List.length_singleton, HON.out, flatC_push]
                    exact owns_keep hownB (fun z hz => Below.heap_setCell _ _ _ _ (show z ≠ CB from by have := (hownB.lt z hz).1; have := HOBZ.out.cm; omega)))
                  have HKF := Lib.hid (show ∀ k ∈ o ++ [x], k.OkG from fun k hk => by
                    rcases List.mem_append.1 hk with h | h
                    · exact HOK.out k h
                    · rw [List.mem_singleton] at h; subst h; exact HXK.out)
                  have HLF := Lib.hid (show (o ++ [x]).length = o.length + 1 by rw [List.length_append, List.length_singleton])
                  have HRF := Lib.hid (Row.apt (o := 35) (g := .slice va on vc) (g' := .slice (some ⟨gg, 0, none⟩) (on + 1) cap8) (u := .slice (some ⟨gg, 0, none⟩) (on + 1) cap8) (by omega) (HKR8.out.mono (w' := (wo.alloc (.cells #[.int .u8 x.kind, .int .i64 x.a, .int .i64 x.b, .int .i64 x.n] 53)).drew) (fun _ h => h) (fun b off x hb hc => HMZ.out.cell hc)) hgrowB (fun z hz => by
                    have hzg : gg = z := by injection hz
                    subst hzg
                    rcases hatB with h | h
                    · exact Or.inl h
                    · exact Or.inr (by rw [h]; simp)))
                  clear hownB hgrowB hatB dB fB hbB c35 nA hbc e0 hbe g0 g1 g2 g3 hbg x11 hbx
                  have hlt9 := HLT.out
                  go_wp2_with fail
                  go_roundw
                  case rel => exact ⟨j + 1, o ++ [x], _, _, by have := HLT.out.1; omega, by have := HLT.out.2.1; omega, by go_num, HBF, HOF, Lib.hid (by rw [HLF.out]; have := HOL.out; omega), HKF, HRF⟩
                  case measure => have := HLT.out; simp [intOf]; omega
              | false =>
                clear x11 hbx HZ HKR hj hj4
                have HO9 := Lib.hid (show o.length ≤ 9 by have := HOL.out; have := HJ4.out; omega)
                have HOKU := HOK
                clear HOL
                have HUR := Lib.hid (show Row (fun b => (Value.slice none 0 0).ownBlock ≠ some b ∧ CB < b) wo 4 o.length u (flatC kC o) from (Row.of_owns HO.out).mono (fun b hb => ⟨fun e => (by cases e), by have := HOB.out.cm; omega⟩) (fun _ _ _ _ h => h))
                obtain ⟨un, HUN⟩ : ∃ un, Hid (o.length = un) := ⟨_, Lib.hid rfl⟩
                rw [HUN.out] at HUR
                obtain ⟨ya, yc, rfl, _⟩ := owns_shape HO.out
                rw [HUN.out] at HOB HUR
                go_wp2_with fail
                go_loopw [11] (fun i wr => ∃ (j : Nat) (o3 : List HV) (v3 : Value) (A : Array Value), j ≤ H.length ∧ j ≤ 4 ∧ i = .int .i64 j ∧ Hid (OfB wb CB M qq hor (.slice ta S.length tc) wit spl A (.slice ya un yc) v3 wr) ∧ Hid (wr.ownsRow M 68 4 v3 o3.length (flatC hC o3)) ∧ Hid (o3.length = j) ∧ Hid (∀ p ∈ o3, p ∈ H) ∧ Hid (Row (fun b => v3.ownBlock ≠ some b ∧ CB < b) wr 4 un (.slice ya un yc) (flatC kC o))) (fun i _ => H.length - (intOf i).toNat)
                case atStart => exact ⟨0, [], .slice none 0 0, A, Nat.zero_le _, by omega, rfl, HOB, Lib.hid (World.ownsRow_nil _ _ _ _), Lib.hid rfl, Lib.hid (fun p h => by simp at h), HUR⟩
                case round =>
                  clear HOB HO HUR
                  obtain ⟨j, o3, v3, A, hj, hj4, rfl, HOB, HO, HOL, HOK, HUR⟩ := hrel
                  obtain ⟨wo, rfl⟩ : ∃ wo : World, wo = wr := ⟨_, rfl⟩
                  have HXo := Lib.hid (HXF.out wo HOB.out.low)
                  have HMW := Lib.hid (HMWF.out wo HOB.out.low)
                  have x10 : wo.cell? ⟨N, 10, none⟩ = some (.slice ha H.length hcp) := cell_of_blk HXo.out rfl
                  have hbx := cell_lt x10
                  obtain ⟨z, HZ⟩ : ∃ z, Hid (decide (j < H.length ∧ j < 4) = z) := ⟨_, Lib.hid rfl⟩
                  have HJ4 := Lib.hid hj4
                  go_upto_region 15 with (fail)
                  go_cut [104] (fun s wx => s = .bool z ∧ Hid (wo = wx))
                  case first =>
                    by_cases hlt : j < H.length
                    · have hlt' : (j : Int) < H.length := by omega
                      by_cases h4 : j < 4
                      · have h4' : (j : Int) < 4 := by omega
                        have hz : z = true := by rw [← HZ.out]; simp only [decide_eq_true_eq]; omega
                        subst hz
                        go_wp2_with fail
                        go_meet
                        case rel => exact ⟨by first | rfl | trivial, Lib.hid rfl⟩
                      · have hz : z = false := by rw [← HZ.out]; simp only [decide_eq_false_iff_not]; omega
                        obtain rfl : j = 4 := by omega
                        clear h4
                        subst hz
                        go_wp2_with fail
                        go_meet
                        case rel => exact ⟨by first | rfl | trivial, Lib.hid rfl⟩
                    · have hz : z = false := by rw [← HZ.out]; simp only [decide_eq_false_iff_not]; omega
                      obtain rfl : j = H.length := by omega
                      clear hlt
                      subst hz
                      go_wp2_with fail
                      go_meet
                      case rel => exact ⟨by first | rfl | trivial, Lib.hid rfl⟩
                  case rest =>
                    obtain ⟨rfl, hwc⟩ := hcut
                    have hwc := hwc.out
                    subst hwc
                    cases z with
                    | true =>
                      have hgo := of_decide_eq_true HZ.out
                      have hlt := hgo.1
                      have HLT := Lib.hid hgo; clear hgo
                      obtain ⟨b, off, rfl, _, hc⟩ := HRH.out.1.atC hC_len hlt
                      have e0 := HMW.out.cell (hc 0 (.int .i64 H[j].2.m.f) rfl)
                      have e1 := HMW.out.cell (hc 1 (.int .i64 H[j].2.m.t) rfl)
                      have e2 := HMW.out.cell (hc 2 (.int .i64 H[j].2.m.n) rfl)
                      have e3 := HMW.out.cell (hc 3 (H[j].1) rfl)
                      rw [Nat.add_zero] at e0
                      clear hc
                      have hxm := List.getElem_mem hlt
                      have hxk := (HRH.out.2.1 _ hxm).at'
                      generalize H[j] = x at *
                      have hjw : (j : Int) < H.length := by omega
                      obtain ⟨xv, ⟨⟨mf, mt, mn⟩, al⟩⟩ := x
                      obtain ⟨xa, xc, hxv, _⟩ := hxk.row.shape
                      dsimp only at hxv e0 e1 e2 e3
                      subst hxv
                      have HXM := Lib.hid hxm; clear hxm hxk
                      obtain ⟨an, HAN⟩ : ∃ an, Hid (al.length = an) := ⟨_, Lib.hid rfl⟩
                      rw [HAN.out] at e3 HXM
                      have hbe := cell_lt e0
                      obtain ⟨va, vc, rfl, _⟩ := owns_shape HO.out
                      obtain ⟨on, HON⟩ : ∃ on, Hid (o3.length = on) := ⟨_, Lib.hid rfl⟩
                      have HO9 := HO.out
                      have HUV := HOB.out.hv
                      have hur9 := HUR.out
                      rw [HON.out] at HO9 HUV hur9
                      have HUR8 := Lib.hid hur9; clear hur9
                      have c36 : wo.cell? ⟨CB, 36, none⟩ = some (.slice va on vc) := cell_of_blk HOB.out.blk HUV
                      have hbc := cell_lt c36
                      have HMZ := Lib.hid (show More wo ((wo.alloc (.cells #[.int .i64 mf, .int .i64 mt, .int .i64 mn, .slice xa an xc] 68)).drew) from more_trans (more_alloc _ _) (more_drew _))
                      have nA : ((wo.alloc (.cells #[.int .i64 mf, .int .i64 mt, .int .i64 mn, .slice xa an xc] 68)).drew).cell? ⟨CB, 36, none⟩ = some (.slice va on vc) := HMZ.out.cell c36
                      have HOZ := Lib.hid (show ((wo.alloc (.cells #[.int .i64 mf, .int .i64 mt, .int .i64 mn, .slice xa an xc] 68)).drew).ownsRow M 68 4 (.slice va on vc) on (flatC hC o3) from owns_keep HO9 (fun z hz => HMZ.out.block (HO9.lt z hz).2))
                      have HOBZ := Lib.hid (HOB.out.more HMZ.out)
                      have HR9 := Lib.hid (room48 (n := on + 1) (by have h1 := HOL.out; have h2 := HON.out; omega))
                      have HO8 := Lib.hid HO9; clear HO9
                      have HUV9 := Lib.hid HUV; clear HUV
                      go_upto_region 17 with (fail)
                      go_region_law (first | (refine step_append_lies _ (by rfl) _ _ _ (by rfl) M 68 i1 _ 4 48 Tryz.underlying25 hi1 hy0 hy1 hy2 (by rfl) (by omega) (.slice va on vc) on (flatC hC o3) (by rfl) HOZ.out ⟨wo.heap.size, 0, none⟩ 1 1 [.int .i64 mf, .int .i64 mt, .int .i64 mn, .slice xa an xc] (by rfl) (by rfl) (World.news_of_block (cs := #[.int .i64 mf, .int .i64 mt, .int .i64 mn, .slice xa an xc]) (t := 68) (fr := (0, 0)) (alloc_last _ _)) (by simp [Value.oneCell']) (by omega) HR9.out.1 HR9.out.2 HOBZ.out.ms (wo.heap.size + 1) (by simp) ?_; intro gg cap8 wB hownB hgrowB hatB _; have HBB := Lib.hid (HOBZ.out.grow hgrowB (fun z hz => (HO8.out.lt z hz).1)); have dB : wB.cell? ⟨CB, 36, none⟩ = some (.slice va on vc) := cell_of_blk HBB.out.blk HUV9.out; have fB := thaw HBB.out.blk 36; have hbB := cell_lt dB))
                      all_goals
                        have HBF := Lib.hid (HBB.out.setH (.slice (some ⟨gg, 0, none⟩) (on + 1) cap8))
                        have HOF := Lib.hid (show (wB.setCell ⟨CB, 36, none⟩ (.slice (some ⟨gg, 0, none⟩) (on + 1) cap8)).ownsRow M 68 4 (.slice (some ⟨gg, 0, none⟩) (on + 1) cap8) (o3 ++ [((.slice xa an xc, ⟨⟨mf, mt, mn⟩, al⟩) : HV)]).length (flatC hC (o3 ++ [((.slice xa an xc, ⟨⟨mf, mt, mn⟩, al⟩) : HV)])) from by
                          rw [List.length_append, List.length_singleton, HON.out, flatC_push]
                          exact owns_keep hownB (fun z hz => Below.heap_setCell _ _ _ _ (show z ≠ CB from by have := (hownB.lt z hz).1; have := HOBZ.out.cm; omega)))
                        have HKF := Lib.hid (show ∀ p ∈ o3 ++ [((.slice xa an xc, ⟨⟨mf, mt, mn⟩, al⟩) : HV)], p ∈ H from fun k hk => by
                          rcases List.mem_append.1 hk with h | h
                          · exact HOK.out k h
                          · rw [List.mem_singleton] at h; subst h; exact HXM.out)
                        have HLF := Lib.hid (show (o3 ++ [((.slice xa an xc, ⟨⟨mf, mt, mn⟩, al⟩) : HV)]).length = o3.length + 1 by rw [List.length_append, List.length_singleton])
                        have HRF := Lib.hid (Row.apt (o := 36) (g := .slice va on vc) (g' := .slice (some ⟨gg, 0, none⟩) (on + 1) cap8) (u := .slice (some ⟨gg, 0, none⟩) (on + 1) cap8) (by omega) (HUR8.out.mono (w' := (wo.alloc (.cells #[.int .i64 mf, .int .i64 mt, .int .i64 mn, .slice xa an xc] 68)).drew) (fun _ h => h) (fun b off x hb hc => HMZ.out.cell hc)) hgrowB (fun z hz => by
                          have hzg : gg = z := by injection hz
                          subst hzg
                          rcases hatB with h | h
                          · exact Or.inl h
                          · exact Or.inr (by rw [h]; simp)))
                        clear hownB hgrowB hatB dB fB hbB c36 nA hbc e0 e1 e2 e3 hbe x10 hbx
                        have hlt9 := HLT.out
                        go_wp2_with fail
                        go_roundw
                        case rel => exact ⟨j + 1, o3 ++ [((.slice xa an xc, ⟨⟨mf, mt, mn⟩, al⟩) : HV)], _, _, by have := HLT.out.1; omega, by have := HLT.out.2; omega, by go_num, HBF, HOF, Lib.hid (by rw [HLF.out, HOL.out]), HKF, HRF⟩
                        case measure => have := HLT.out; simp [intOf]; omega
                    | false =>
                      clear x10 hbx HZ
                      have HRB9 := Lib.hid (show wo.heap[N + 1]? = some (.cells #[.int .u8 0, .int .u8 0, .int .u8 0, .int .u8 0, .int .u8 0, .int .u8 0, .int .u8 0, .int .u8 0, .int .u8 0, .int .u8 0, .int .u8 0, .int .u8 0, .int .u8 0, .int .u8 0, .int .u8 0, .int .u8 0, .int .u8 0, .int .u8 0, .int .u8 0, .int .u8 0, .int .u8 0, .int .u8 0, .int .u8 0, .int .u8 0, .int .u8 0, .int .u8 0, .int .u8 0, .int .u8 0, .int .u8 0, .int .u8 0, .int .u8 0, .int .u8 0, .string (ByteArray.mk #[]), .int .i64 0, .slice none 0 0, .slice none 0 0, .slice none 0 0, .int .i64 0, .int .i64 0] 35) from (HOB.out.low.block (N + 1) (by rw [HCB.out]; exact blk_lt HRB6.out)).trans HRB6.out)
                      have HA9 := Lib.hid HOB.out.blk
                      have hsz := HOB.out.size
                      have HON9 := Lib.hid (HOB.out.ones (owns_sl HO.out))
                      go_wp2_with (first | (refine wpList_load98 rfl _ rfl CB rfl A HA9.out hsz ?_) | (refine wpList_store_row rfl 35 _ _ rfl (N + 1) A rfl rfl 35 _ HRB9.out (by rw [hsz]; exact info98) (by rw [hsz]; rfl) HON9.out ?_))
                      have HLF := Lib.hid (ld98 (w := wo.setRow (N + 1) A) (N := N + 1) hsz (setRow_heap wo (N + 1) _ A 35 (0, 0) HRB9.out))
                      have HBZ := Lib.hid (show Below w.heap.size w (wo.setRow (N + 1) A) from below_setRow HMW.out.below (by rw [← HN.out]; omega) A)
                      have HBZN := Lib.hid (show Below N w (wo.setRow (N + 1) A) from below_setRow (HMW.out.below.mono (by rw [HN.out]; exact Nat.le_refl _)) (by omega) A)
                      have HN1 := Lib.hid (show N + 1 < CB by rw [HCB.out]; exact blk_lt HRB6.out)
                      have hld := HLF.out
                      refine bodyPost_ret (v := .tuple #[.agg A, .bool true]) (results49_at hld _ (by kernel_rfl) (by kernel_rfl)) rfl ⟨⟨A, rfl, ⟨qq, hor, .slice ta S.length tc, S, .slice ya un yc, o, v3, o3, wit, spl⟩, ?_, ?_⟩, HBZN.out⟩
                      · refine ⟨hsz, HOB.out.q, HOB.out.hor, HOB.out.sv, HOB.out.uv, HOB.out.hv, HOB.out.wit, HOB.out.spl, ?_, ?_, ?_, fun p hp => (HRH.out.2.1 p (HOK.out p hp)).at'.more (more_of HBZ.out), ?_, ?_⟩
                        · exact HS4S.out.mono (fun _ _ _ => trivial) (fun b hb hl => by
                            have h1 : N + 1 < w3.heap.size := blk_lt HRB3.out
                            have h2 : w3.heap.size ≤ b := hb
                            rw [setRow_other _ _ _ _ (by omega), HOB.out.low.block b (by rw [HCB.out]; exact Nat.lt_of_lt_of_le hl HM5.out.size)]
                            exact HM5.out.block hl)
                        · show Row anyB _ 4 o.length (.slice ya un yc) (flatC kC o)
                          rw [HUN.out]
                          exact HUR.out.mono (fun _ _ => trivial) (fun b off x hb hc => by rw [cell_setRow_other _ _ _ _ (show b ≠ N + 1 by have := hb.2; have := HN1.out; omega)]; exact hc)
                        · exact (Row.of_owns HO.out).mono (fun _ _ => trivial) (fun b off x hb hc => by rw [cell_setRow_other _ _ _ _ (show b ≠ N + 1 by have h1 : M ≤ b := hb; have := HN1.out; have := HOB.out.cm; omega)]; exact hc)
                        · have := HUN.out; have := HO9.out; show o.length ≤ 16; omega
                        · show o3.length ≤ 16; rw [HOL.out]; have := HJ4.out; omega
                      · exact ⟨HOB.out.fl, HOKU.out, HIS.out, fun p hp a ha n hn => ((HRH.out.2.1 p (HOK.out p hp)).ars a ha).i64 n hn, HQZ.out⟩
end Go.Proofs.YtemeppfikpafbaaGreatDoor

