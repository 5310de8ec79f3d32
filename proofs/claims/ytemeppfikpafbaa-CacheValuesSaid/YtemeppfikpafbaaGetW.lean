/- (*Cache).Get (42). -/
import Derived.Test.YtemeppfikpafbaaCac2
import Derived.Deep.DeepCutAuto
namespace Go.Proofs.Ytemeppfikpafbaa
open Go.RowKit
/-- The newest entry that applies. -/
def getE (E : List Ent) (s : List Ch) (h : List M3) : Option Ent := E.reverse.find? fun e => appB e s h
theorem getE_at {E : List Ent} {s : List Ch} {h : List M3} {i : Nat} (hi : i < E.length) (ha : appB E[i] s h = true) (hn : ∀ e ∈ E.drop (i + 1), appB e s h = false) : getE E s h = some E[i] := by
  unfold getE
  have e1 : E.reverse = (E.drop (i + 1)).reverse ++ (E[i] :: (E.take i).reverse) := by
    conv => lhs; rw [← List.take_append_drop i E]
    rw [List.drop_eq_getElem_cons hi, List.reverse_append, List.reverse_cons, List.append_assoc]
    rfl
  rw [e1, List.find?_append, List.find?_eq_none.2 (fun x hx => by rw [hn x (List.mem_reverse.1 hx)]; simp), List.find?_cons]
  simp [ha]
theorem getE_none {E : List Ent} {s : List Ch} {h : List M3} (hn : ∀ e ∈ E, appB e s h = false) : getE E s h = none := by
  unfold getE
  rw [List.find?_eq_none]
  intro x hx
  rw [hn x (List.mem_reverse.1 hx)]; simp
def getR (o : Option Ent) : Value := match o with
  | some e => .tuple #[.bool e.vd, .bool true]
  | none => .tuple #[.bool false, .bool false]
def getH (o : Option Ent) (h : Int) : Int := match o with
  | some _ => h + 1
  | none => h
theorem CState.hit {S0 : Nat → Prop} {w : World} {CB : Nat} {lim hits : Int} {E : List Ent} {M : Nat} {v : Value} {raw : List RawE} (h : CState S0 w CB lim hits E M v raw) (n : Int) : CState S0 (w.setCell ⟨CB, 2, none⟩ (.int .i64 n)) CB lim n E M v raw := by
  have hvCB : v.ownBlock ≠ some CB := fun e => by have := ((owns_shape h.own).choose_spec.choose_spec.2 CB e).1; omega
  refine ⟨setCell_heap h.blk, h.len, owns_keep h.own (fun y hy => Below.heap_setCell _ _ _ _ (show y ≠ CB from fun e => hvCB (by rw [← e]; exact hy))), h.lt, h.cb, fun i a b => (h.ent i a b).mono (fun _ h => h) (fun b off u hb hc => ?_), h.ok⟩
  rw [← hc]
  exact World.cell?_of_block (w := w) (a := ⟨b, off, none⟩) (Below.heap_setCell _ _ _ _ hb.1)
set_option maxRecDepth 100000 in
set_option maxHeartbeats 4000000 in
theorem get42_any (S0 : Nat → Prop) (CB : Nat) (lim hits : Int) (E : List Ent) (M : Nat) (cv : Value) (raw : List RawE) (s : List Ch) (l : List M3) (sv hv : Value) (w : World)
    (hC : CState S0 w CB lim hits E M cv raw) (ha : AscC s) (hs : Row anyB w 7 s.length sv (flatC chC s)) (hsl : s.length ≤ 100)
    (hl : Row anyB w 3 l.length hv (flatC mC l)) (hn : NilA hv) (hll : l.length ≤ 100) (hne : ∀ j (h : j + 1 < (srtM l).length), (srtM l)[j + 1] ≠ (srtM l)[j]) (hEl : E.length ≤ 1000) (hh : 0 ≤ hits ∧ hits ≤ 100000) :
    Calls Try.prog 42 #[.pointer (some ⟨CB, 0, none⟩), .agg #[sv], hv] w fun e w' => (e = .returned (getR (getE E s (srtM l))) ∧ CState S0 w' CB lim (getH (getE E s (srtM l)) hits) E M cv raw) ∧ Below CB w w' := by
  obtain ⟨sa, sc, rfl, _⟩ := hs.shape
  obtain ⟨la, lc, rfl, _⟩ := hl.shape
  obtain ⟨ca, cc, rfl⟩ := hC.shape
  have HC := Lib.hid hC; clear hC
  have HS := Lib.hid hs; clear hs
  have HA := Lib.hid ha
  have HNE := Lib.hid hne; clear hne
  have HLEN := Lib.hid (And.intro hsl (And.intro hll hEl))
  have HSRT := Lib.hid (fun W (hW : More w W) => sorted_any l _ W (by omega) (hl.below hW.below) hn)
  have HCB0 := Lib.hid (show CB < w.heap.size from blk_lt HC.out.blk)
  clear hl hn ha
  obtain ⟨hh0, hh1⟩ := hh
  go_enter Try.func42, Try.ntmps42
  go_upto_region 3 with (fail)
  have HSB := Lib.hid (alloc_last w (.cells #[.slice sa s.length sc] 73))
  have HM2 := Lib.hid (more_alloc w (.cells #[.slice sa s.length sc] 73))
  obtain ⟨SB, HSBE⟩ : ∃ SB, Hid (SB = w.heap.size) := ⟨_, Lib.hid rfl⟩
  rw [← HSBE.out] at HSB ⊢
  generalize w.alloc (.cells #[.slice sa s.length sc] 73) = w2 at *
  go_wp2_with fail
  refine (HSRT.out _ HM2.out).mono ?_
  rintro e w3 ⟨⟨v3, rfl, ho3⟩, hb3⟩
  obtain ⟨va, vc, rfl, _⟩ := owns_shape ho3
  have HR3 := Lib.hid ((Row.of_owns ho3).mono (S' := anyB) (fun _ _ => trivial) (fun _ _ _ _ h => h))
  have HM3 := Lib.hid (more_of hb3)
  have HCP := Lib.hid (show Calls Try.prog 84 #[.slice va l.length vc] w3 fun e w' => e = .returned (.slice va l.length vc) ∧ Lay w3 w' from compact_any (srtM l) (.slice va l.length vc) w3 (by rw [srtM_len]; have := HLEN.out.2.1; omega) HNE.out (by rw [srtM_len]; exact HR3.out))
  clear ho3 hb3 HSRT
  go_wp2_with fail
  refine HCP.out.mono ?_
  rintro e w4 ⟨rfl, hl4⟩
  have HR4 := Lib.hid (show Row anyB w4 3 (srtM l).length (.slice va l.length vc) (flatC mC (srtM l)) by rw [srtM_len]; exact HR3.out.below hl4.1.below)
  have HM4 := Lib.hid (more_trans HM2.out (more_trans HM3.out hl4.1))
  have HSB4 := Lib.hid (((more_trans HM3.out hl4.1).block (blk_lt HSB.out)).trans HSB.out)
  have HC4 := Lib.hid (HC.out.below HM4.out.below)
  have HS4 := Lib.hid (HS.out.below HM4.out.below)
  clear hl4 HCP HR3 HM3
  have c1 : w4.cell? ⟨CB, 1, none⟩ = some (.slice ca E.length cc) := cell_of_blk HC4.out.blk rfl
  have hcb := cell_lt c1
  have hwe : IntKind.i64.wrap ((E.length : Int) - 1) = (E.length : Int) - 1 := by rw [IntKind.wrap_i64]; omega
  go_wp2_with fail
  go_loopw [8] (fun i wr => ∃ m : Nat, m ≤ E.length ∧ i = .int .i64 ((m : Int) - 1) ∧ Hid (More w4 wr) ∧ Hid (∀ e ∈ E.drop m, appB e s (srtM l) = false)) (fun i _ => (intOf i + 1).toNat)
  case atStart => exact ⟨E.length, Nat.le_refl _, rfl, Lib.hid (World.grownBy.refl _ _), Lib.hid (fun e he => by rw [List.drop_length] at he; simp at he)⟩
  case round =>
    obtain ⟨m, hm, rfl, HMr, HN⟩ := hrel
    clear c1 hcb hwe
    have HCr := Lib.hid (HC4.out.below HMr.out.below)
    have HSBr := Lib.hid ((HMr.out.block (blk_lt HSB4.out)).trans HSB4.out)
    have c1 : wr.cell? ⟨CB, 1, none⟩ = some (.slice ca E.length cc) := cell_of_blk HCr.out.blk rfl
    have hcb := cell_lt c1
    rcases Nat.eq_zero_or_pos m with h0 | h0
    · subst h0
      rw [show (((0 : Nat) : Int) - 1) = -1 from rfl]
      have HG := Lib.hid (getE_none (by rw [List.drop_zero] at HN; exact HN.out))
      go_wp2_with fail
      go_ret2
      rw [HG.out]
      exact ⟨⟨rfl, HCr.out⟩, (more_trans HM4.out HMr.out).below.mono (Nat.le_of_lt HCB0.out)⟩
    · obtain ⟨i, rfl⟩ : ∃ i, m = i + 1 := ⟨m - 1, by omega⟩
      rw [show (((i + 1 : Nat) : Int) - 1) = (i : Int) by omega]
      have hil : i < E.length := by omega
      have hir : i < raw.length := by rw [HCr.out.len]; exact hil
      have HER := Lib.hid ((HCr.out.ent i hil hir).mono (S' := anyB) (fun _ _ => trivial) (fun _ _ _ _ h => h))
      have HOK := Lib.hid (HCr.out.ok _ (List.getElem_mem hil))
      have HGA := Lib.hid (fun (h : appB E[i] s (srtM l) = true) => getE_at hil h HN.out)
      have HND := Lib.hid (show appB E[i] s (srtM l) = false → ∀ e ∈ E.drop i, appB e s (srtM l) = false from fun h e he => by
        rw [List.drop_eq_getElem_cons hil] at he
        rcases List.mem_cons.1 he with e1 | e1
        · rw [e1]; exact h
        · exact HN.out e e1)
      have HRW := Lib.hid (show Row anyB wr 4 raw.length (.slice ca raw.length cc) (flatC rC raw) by rw [HCr.out.len]; exact (Row.of_owns HCr.out.own).mono (fun _ _ => trivial) (fun _ _ _ _ h => h))
      obtain ⟨b, off, rfl, _, hc⟩ := HRW.out.atC rC_len hir
      have g0 := hc 0 raw[i].1.1 rfl
      have g1 := hc 1 raw[i].1.2.1 rfl
      have g2 := hc 2 raw[i].1.2.2 rfl
      have g3 := hc 3 (.bool raw[i].2) rfl
      rw [Nat.add_zero] at g0
      clear hc
      have HAP := Lib.hid (fun W (hW : More wr W) => applies_any E[i] s (srtM l) _ _ _ _ _ W ⟨by have := HOK.out.lc; omega, by have := HOK.out.lh; omega, by have := HOK.out.lu; omega, by have := HLEN.out.1; omega, by rw [srtM_len]; have := HLEN.out.2.1; omega⟩ HOK.out.asc HA.out (HER.out.ch.below hW.below) (HER.out.ho.below hW.below) (HER.out.us.below hW.below) (HS4.out.below (more_trans HMr.out hW).below) (HR4.out.below (more_trans HMr.out hW).below))
      have HVD := Lib.hid HER.out.vd
      obtain ⟨q, HQ⟩ : ∃ q, Hid (appB E[i] s (srtM l) = q) := ⟨_, Lib.hid rfl⟩
      rw [HQ.out] at HAP HGA HND
      obtain ⟨x1, y1, hx1, _⟩ := HER.out.ch.shape
      obtain ⟨x2, y2, hx2, _⟩ := HER.out.ho.shape
      obtain ⟨x3, y3, hx3, _⟩ := HER.out.us.shape
      rw [hx1] at g0 HAP
      rw [hx2] at g1 HAP
      rw [hx3] at g2 HAP
      rw [HVD.out] at g3
      clear hx1 hx2 hx3 HER HVD HOK
      generalize E[i] = e at *
      have hbg := cell_lt g0
      have HEB := Lib.hid (alloc_last wr (.cells #[.slice x1 e.ch.length y1, .slice x2 e.ho.length y2, .slice x3 e.us.length y3, .bool e.vd] 148))
      have HME := Lib.hid (more_alloc wr (.cells #[.slice x1 e.ch.length y1, .slice x2 e.ho.length y2, .slice x3 e.us.length y3, .bool e.vd] 148))
      go_upto_region 8 with (fail)
      clear g0 g1 g2 g3 hbg c1 hcb
      generalize wr.alloc (.cells #[.slice x1 e.ch.length y1, .slice x2 e.ho.length y2, .slice x3 e.us.length y3, .bool e.vd] 148) = w5 at *
      generalize wr.heap.size = EB at *
      have HSB5 := Lib.hid ((HME.out.block (blk_lt HSBr.out)).trans HSBr.out)
      have d0 : w5.cell? ⟨EB, 0, none⟩ = some (.slice x1 e.ch.length y1) := cell_of_blk HEB.out rfl
      have d1 : w5.cell? ⟨EB, 1, none⟩ = some (.slice x2 e.ho.length y2) := cell_of_blk HEB.out rfl
      have d2 : w5.cell? ⟨EB, 2, none⟩ = some (.slice x3 e.us.length y3) := cell_of_blk HEB.out rfl
      have d3 : w5.cell? ⟨EB, 3, none⟩ = some (.bool e.vd) := cell_of_blk HEB.out rfl
      have s0 : w5.cell? ⟨SB, 0, none⟩ = some (.slice sa s.length sc) := cell_of_blk HSB5.out rfl
      have hdb := cell_lt d0
      have hsb := cell_lt s0
      go_wp2_with fail
      refine (HAP.out _ HME.out).mono ?_
      rintro en w6 ⟨rfl, hm6⟩
      have HM6 := Lib.hid (more_trans HMr.out (more_trans HME.out hm6))
      have HEB6 := Lib.hid ((hm6.block (blk_lt HEB.out)).trans HEB.out)
      have HC6 := Lib.hid (HC4.out.below HM6.out.below)
      clear hm6 d0 d1 d2 d3 s0 hdb hsb
      cases q with
      | false =>
        have HDD := Lib.hid (HND.out rfl)
        go_wp2_with fail
        go_roundw
        case rel => exact ⟨i, by omega, by go_num, HM6, HDD⟩
        case measure => simp [intOf]
      | true =>
        have HG := Lib.hid (HGA.out rfl)
        have k2 : w6.cell? ⟨CB, 2, none⟩ = some (.int .i64 hits) := cell_of_blk HC6.out.blk rfl
        have f2 := thaw HC6.out.blk 2
        have d3 : w6.cell? ⟨EB, 3, none⟩ = some (.bool e.vd) := cell_of_blk HEB6.out rfl
        have HNE2 := Lib.hid (show EB ≠ CB from fun e' => by
          have h1 := HEB6.out
          have h2 := HC6.out.blk
          rw [e', h2] at h1; simp at h1)
        have d3' : (w6.setCell ⟨CB, 2, none⟩ (.int .i64 (hits + 1))).cell? ⟨EB, 3, none⟩ = some (.bool e.vd) := (World.cell?_of_block (w := w6) (a := ⟨EB, 3, none⟩) (Below.heap_setCell _ _ _ _ HNE2.out)).trans d3
        have hwh : IntKind.i64.wrap (hits + 1) = hits + 1 := by rw [IntKind.wrap_i64]; omega
        have hdb := cell_lt d3
        have hkb := cell_lt k2
        go_wp2_with fail
        go_ret2
        rw [HG.out]
        exact ⟨⟨rfl, HC6.out.hit (hits + 1)⟩, ((more_trans HM4.out HM6.out).below.mono (Nat.le_of_lt HCB0.out)).setCell (Nat.le_refl _) _⟩
end Go.Proofs.Ytemeppfikpafbaa
