/- ref10.Bound (98). -/
import Derived.Test.YtekhoanjpnjaeaaEval
namespace Go.Proofs.Ytekhoanjpnjaeaa
open Go.RowKit

theorem placeV_neg (l : List ByteArray) (s : ByteArray) : decide (placeV l s < 0) = (placeN l s).isNone := by
  unfold placeV
  cases placeN l s with
  | none => simp
  | some i => simp
theorem boundL_false (e : EnvD) (l : List Ex) (k : Nat) (h : k < l.length) (hf : boundT e l[k] = false) : boundL e l = false := by
  rw [Bool.eq_false_iff]
  intro hb
  have := (boundL_iff e l).1 hb _ (List.getElem_mem h)
  rw [this] at hf; cases hf

def BoundSaid (d : Nat) : Prop := ∀ (S S' : Nat → Prop) (t : Ex) (c : Value) (e : EnvD) (c1 c2 c3 c4 : Value) (w : World), Flds .i64 t → RepS .i64 S w d t.args c → EnvRep S' w e c1 c2 c3 c4 →
    Calls Try.prog 98 #[agg .i64 t c, aggE e c1 c2 c3 c4] w fun r w' => r = .returned (.bool (boundT e t)) ∧ Below w.heap.size w w'

set_option maxHeartbeats 2000000 in
set_option maxRecDepth 100000 in
theorem bound_any (d : Nat) : BoundSaid d := by
  induction d using Nat.strongRecOn with
  | _ d ih =>
    intro S S' t c e c1 c2 c3 c4 w hf hr hE
    have IH := Lib.hid ih; clear ih
    obtain ⟨a, cap, rfl⟩ := hr.shape
    obtain ⟨a1, cap1, rfl, _⟩ := hE.names.shape
    obtain ⟨a2, cap2, rfl, _⟩ := hE.vals.shape
    obtain ⟨a3, cap3, rfl, _⟩ := hE.tnames.shape
    obtain ⟨a4, cap4, rfl, _⟩ := hE.tabs.choose_spec.1.shape
    have hlen := hf.len
    have hsm := hE.small.1
    have hsm2 := hE.small.2.2.1
    have HF := Lib.hid hf; clear hf
    have HR := Lib.hid hr; clear hr
    have HE := Lib.hid hE; clear hE
    have HBT := Lib.hid (boundT_eq e t)
    rw [HBT.out]
    have HBN : Hid (boundN e t.op t.name = (!(decide (t.op = 5) && (placeN e.names t.name).isNone) && !(decide (6 ≤ t.op ∧ t.op ≤ 8) && (placeN e.tnames t.name).isNone))) := Lib.hid rfl
    generalize boundN e t.op t.name = B at *
    have HPL := Lib.hid (fun (w' : World) (hm : Below w.heap.size w w') => place_any S' e.names t.name (.slice a1 e.names.length cap1) w' hsm (HE.out.names.below hm))
    have HPT := Lib.hid (fun (w' : World) (hm : Below w.heap.size w w') => place_any S' e.tnames t.name (.slice a3 e.tnames.length cap3) w' hsm2 (HE.out.tnames.below hm))
    have hp1 := placeV_neg e.names t.name
    have hp2 := placeV_neg e.tnames t.name
    generalize placeV e.names t.name = p1 at *
    generalize placeV e.tnames t.name = p2 at *
    have HM2 : Hid (More w ((w.alloc (.cells #[.int .i64 t.op, .string t.name, .int .i64 t.n, .slice a t.args.length cap] 36)).alloc (.cells #[.slice a1 e.names.length cap1, .slice a2 e.vals.length cap2, .slice a3 e.tnames.length cap3, .slice a4 e.tabs.length cap4, .int .i64 e.now] 93))) := Lib.hid (grownBy_alloc2 _ _ _ _)
    have HX2 : Hid (((w.alloc (.cells #[.int .i64 t.op, .string t.name, .int .i64 t.n, .slice a t.args.length cap] 36)).alloc (.cells #[.slice a1 e.names.length cap1, .slice a2 e.vals.length cap2, .slice a3 e.tnames.length cap3, .slice a4 e.tabs.length cap4, .int .i64 e.now] 93)).heap[w.heap.size + 1]? = some (.cells #[.slice a1 e.names.length cap1, .slice a2 e.vals.length cap2, .slice a3 e.tnames.length cap3, .slice a4 e.tabs.length cap4, .int .i64 e.now] 93)) := Lib.hid (alloc_at _ _ (by simp))
    unfold agg aggE
    by_cases hB : B = false
    · -- the node's own name is missing
      subst hB
      rw [Bool.false_and]
      have hcases : (t.op = 5 ∧ (placeN e.names t.name).isNone = true) ∨ (6 ≤ t.op ∧ t.op ≤ 8 ∧ (placeN e.tnames t.name).isNone = true) := by
        have h := HBN.out
        by_cases h5 : t.op = 5
        · left
          refine ⟨h5, ?_⟩
          cases hq : (placeN e.names t.name).isNone with
          | true => rfl
          | false => simp [h5, hq] at h
        · by_cases h6 : 6 ≤ t.op ∧ t.op ≤ 8
          · right
            refine ⟨h6.1, h6.2, ?_⟩
            cases hq : (placeN e.tnames t.name).isNone with
            | true => rfl
            | false => simp [hq] at h; omega
          · rw [show decide (t.op = 5) = false by simpa using h5, show decide (6 ≤ t.op ∧ t.op ≤ 8) = false by simpa using h6] at h
            cases h
      rcases hcases with ⟨h5, hq⟩ | ⟨h6, h8, hq⟩
      · have t5 : (t.op == 5) = true := by simp [h5]
        rw [hq] at hp1
        clear h5 hq hp2
        go_enter Try.func98, Try.ntmps98
        go_wp2_with fail
        refine (HPL.out _ HM2.out.below).mono ?_
        rintro r w3 ⟨rfl, rfl⟩
        go_wp2_with fail
        go_ret
        exact ⟨rfl, HM2.out.below⟩
      · have t5 : (t.op == 5) = false := by simp; omega
        rw [hq] at hp2
        clear hq hp1
        go_enter Try.func98, Try.ntmps98
        go_wp2_with fail
        refine (HPT.out _ HM2.out.below).mono ?_
        rintro r w3 ⟨rfl, rfl⟩
        go_wp2_with fail
        go_ret
        exact ⟨rfl, HM2.out.below⟩
    · obtain rfl : true = B := by cases B <;> simp_all
      clear hB
      rw [Bool.true_and]
      generalize hW : boundL e t.args = W
      have HW := Lib.hid hW; clear hW
      rcases (show t.op = 5 ∨ (6 ≤ t.op ∧ t.op ≤ 8) ∨ (t.op ≤ 4 ∨ 9 ≤ t.op) by omega) with h5 | h5 | h5
      case' inl =>
        have t5 : (t.op == 5) = true := by simp [h5]
        have hq : (placeN e.names t.name).isNone = false := by
          have h := HBN.out
          cases hq : (placeN e.names t.name).isNone with
          | false => rfl
          | true => simp [h5, hq] at h
        rw [hq] at hp1
        have t6 : decide (6 ≤ t.op) = false := by simp; omega
        clear hq hp2 h5
        go_enter Try.func98, Try.ntmps98
        go_wp2_with fail
        refine (HPL.out _ HM2.out.below).mono ?_
        rintro r w3 ⟨rfl, rfl⟩
        go_wp2_with fail
        clear hp1
      case' inr.inl =>
        have t5 : (t.op == 5) = false := by simp; omega
        have hq : (placeN e.tnames t.name).isNone = false := by
          have h := HBN.out
          cases hq : (placeN e.tnames t.name).isNone with
          | false => rfl
          | true => rw [hq, show decide (6 ≤ t.op ∧ t.op ≤ 8) = true by simpa using h5] at h; simp at h
        rw [hq] at hp2
        clear hq hp1
        go_enter Try.func98, Try.ntmps98
        go_wp2_with fail
        refine (HPT.out _ HM2.out.below).mono ?_
        rintro r w3 ⟨rfl, rfl⟩
        go_wp2_with fail
        clear hp2
      case' inr.inr =>
        have t5 : (t.op == 5) = false := by simp; omega
        clear hp1 hp2
        rcases h5 with h5 | h5
        all_goals
          go_enter Try.func98, Try.ntmps98
          go_wp2_with fail
      all_goals
        generalize hw2 : (w.alloc (.cells #[.int .i64 t.op, .string t.name, .int .i64 t.n, .slice a t.args.length cap] 36)).alloc (.cells #[.slice a1 e.names.length cap1, .slice a2 e.vals.length cap2, .slice a3 e.tnames.length cap3, .slice a4 e.tabs.length cap4, .int .i64 e.now] 93) = w2 at *
        clear hw2
        go_loopw [39] (fun i wr => ∃ k : Nat, k ≤ t.args.length ∧ i = .int .i64 k ∧ Hid (More w2 wr) ∧ Hid (boundL e (t.args.take k) = true)) (fun i _ => t.args.length - (intOf i).toNat)
        case atStart => exact ⟨0, Nat.zero_le _, rfl, Lib.hid (World.grownBy.refl _ _), Lib.hid rfl⟩
        case round =>
          obtain ⟨k, hk, rfl, HM, HL⟩ := hrel
          by_cases hlt : k < t.args.length
          · have hne : t.args ≠ [] := by intro e; rw [e] at hlt; simp at hlt
            obtain ⟨d', b', off', rfl, rfl, _, _, hat⟩ := HR.out.at hne
            obtain ⟨g0, g1, g2, gf, c, g3, gc⟩ := (hat k hlt).below (more_trans HM2.out HM.out).below
            clear hat hne
            obtain ⟨ac, capc, rfl⟩ := gc.shape
            have HGC := Lib.hid gc; clear gc
            have HGF := Lib.hid gf; clear gf
            have hbr := cell_lt g0
            have hx3 := (HM.out.block (b := w.heap.size + 1) (by rcases Nat.lt_or_ge (w.heap.size + 1) w2.heap.size with h | h; exact h; have := HX2.out; rw [Array.getElem?_eq_none h] at this; cases this)).trans HX2.out
            have e0 : wr.cell? ⟨w.heap.size + 1, 0, none⟩ = some (.slice a1 e.names.length cap1) := by simp [World.cell?, hx3]
            have e1 : wr.cell? ⟨w.heap.size + 1, 1, none⟩ = some (.slice a2 e.vals.length cap2) := by simp [World.cell?, hx3]
            have e2 : wr.cell? ⟨w.heap.size + 1, 2, none⟩ = some (.slice a3 e.tnames.length cap3) := by simp [World.cell?, hx3]
            have e3 : wr.cell? ⟨w.heap.size + 1, 3, none⟩ = some (.slice a4 e.tabs.length cap4) := by simp [World.cell?, hx3]
            have e4 : wr.cell? ⟨w.heap.size + 1, 4, none⟩ = some (.int .i64 e.now) := by simp [World.cell?, hx3]
            have hN1 := cell_lt e0
            clear hx3
            have HTK := Lib.hid (boundL_take e t.args k hlt)
            have HFA := Lib.hid (boundL_false e t.args k hlt)
            generalize t.args[k] = x at *
            go_wp2_with fail
            generalize hw0 : wr.alloc (.cells #[.int .i64 x.op, .string x.name, .int .i64 x.n, .slice ac x.args.length capc] 36) = w0
            have hm0 : More wr w0 := by rw [← hw0]; exact World.grownBy_alloc _ _ _
            clear hw0
            have HM0 := Lib.hid hm0; clear hm0
            refine (IH.out d' (by omega) S S' x (.slice ac x.args.length capc) e (.slice a1 e.names.length cap1) (.slice a2 e.vals.length cap2) (.slice a3 e.tnames.length cap3) (.slice a4 e.tabs.length cap4) w0 HGF.out (HGC.out.below HM0.out.below) (HE.out.below (more_trans (more_trans HM2.out HM.out) HM0.out).below)).mono ?_
            generalize hbx : boundT e x = bx at *
            have HBX := Lib.hid hbx; clear hbx
            rintro r w1 ⟨rfl, hb1⟩
            have HM1 := Lib.hid (more_trans (more_trans HM.out HM0.out) (more_of hb1))
            clear hb1
            cases bx with
            | true =>
              go_wp2_with fail
              go_roundw
              case rel => exact ⟨k + 1, by omega, by go_num, HM1, Lib.hid (by rw [HTK.out, HL.out]; rfl)⟩
              case measure => simp [intOf]; omega
            | false =>
              go_wp2_with fail
              go_ret
              exact ⟨by rw [← HW.out, HFA.out trivial]; rfl, (more_trans HM2.out HM1.out).below⟩
          · have hkk : t.args.take k = t.args := List.take_of_length_le (by omega)
            have HLL := Lib.hid (show W = true by rw [← HW.out, ← hkk]; exact HL.out)
            clear hkk
            go_wp2_with fail
            go_ret
            exact ⟨by rw [HLL.out]; rfl, (more_trans HM2.out HM.out).below⟩
end Go.Proofs.Ytekhoanjpnjaeaa
