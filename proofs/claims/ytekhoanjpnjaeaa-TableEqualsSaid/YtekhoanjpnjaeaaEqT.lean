/- slices.Equal at entries (82); Table.Equal (43). -/
import Derived.Test.YtekhoanjpnjaeaaTV
import Derived.Laws.StructEq
namespace Go.Proofs.Ytekhoanjpnjaeaa
open Go.RowKit
theorem guard151 : Try.prog.eqGuardType Try.prog.depth 151 = false := by kernel_rfl
theorem u151 : Try.prog.underlying 151 = some (.struct (Try.prog.fieldsOf 151)) := by kernel_rfl
theorem held151 : Try.prog.stoodInHeld 151 = false := by kernel_rfl
set_option maxRecDepth 100000 in
set_option maxHeartbeats 1000000 in
theorem sEqual_any (S S' : Nat → Prop) (l m : List (Int × Int)) (v v' : Value) (w : World) (_hl : l.length < 4294967296) (hm : m.length < 4294967296) (h : Row S w 2 l.length v (flat2 l)) (h' : Row S' w 2 m.length v' (flat2 m)) :
    Calls Try.prog 82 #[v, v'] w fun e w' => e = .returned (.bool (decide (l = m))) ∧ ∃ n, w' = w.drewN n := by
  obtain ⟨a, cap, rfl, hcap⟩ := h.shape
  obtain ⟨a', cap', rfl, hcap'⟩ := h'.shape
  have HR := Lib.hid h; clear h
  have HR' := Lib.hid h'; clear h'
  by_cases hne : l.length = m.length
  · have t1 : ((l.length : Int) != (m.length : Int)) = false := by simp [hne]
    have HNE := Lib.hid hne
    have hle : l.length ≤ m.length := by omega
    clear hne
    go_enter Try.func82, Try.ntmps82
    go_wp2_with fail
    go_loopw [13] (fun i wr => ∃ j n : Nat, j ≤ l.length ∧ i = .int .i64 j ∧ wr = w.drewN n ∧ Hid (∀ i (h : i < l.length) (h' : i < m.length), i < j → l[i] = m[i])) (fun i _ => l.length - (intOf i).toNat)
    case atStart => exact ⟨0, 0, Nat.zero_le _, rfl, rfl, Lib.hid fun _ _ _ h => absurd h (Nat.not_lt_zero _)⟩
    case round =>
      obtain ⟨j, n, hj, rfl, rfl, HN⟩ := hrel
      by_cases hlt : j < l.length
      · have hlt' : j < m.length := by omega
        obtain ⟨b, off, rfl, _, _, hc⟩ := HR.out.at (by omega)
        obtain ⟨b', off', rfl, _, _, hc'⟩ := HR'.out.at (by omega)
        have g0 : w.cell? _ = _ := hc _ _ (flat2_get l j hlt).1
        have g1 : w.cell? _ = _ := hc _ _ (flat2_get l j hlt).2
        have k0 : w.cell? _ = _ := hc' _ _ (flat2_get m j hlt').1
        have k1 : w.cell? _ = _ := hc' _ _ (flat2_get m j hlt').2
        rw [← Nat.add_assoc] at g1 k1
        clear hc hc'
        have HF := Lib.hid (fun (hh : l[j] ≠ m[j]) => show decide (l = m) = false from decide_eq_false fun e => hh (by subst e; rfl))
        have HK := Lib.hid (fun (hh : l[j] = m[j]) i (h : i < l.length) (h' : i < m.length) (hij : i < j + 1) => show l[i] = m[i] by
          by_cases e : i = j
          · subst e; exact hh
          · exact HN.out i h h' (by omega))
        generalize l[j] = x at *
        generalize m[j] = y at *
        have hgd := guard151
        by_cases h1 : x.1 = y.1
        · by_cases h2 : x.2 = y.2
          · have HXY := Lib.hid (show x = y from Prod.ext h1 h2)
            go_wp2_with fail
            go_quiet (fail)
            rw [World.drewN_drewN]
            go_wp2_with fail
            go_roundw
            case rel => exact ⟨j + 1, _, by omega, by go_num, rfl, Lib.hid (HK.out HXY.out)⟩
            case measure => simp [intOf]; omega
          · skip
            have HXY := Lib.hid (show x ≠ y from fun e => h2 (by rw [e]))
            go_wp2_with fail
            go_quiet (fail)
            rw [World.drewN_drewN]
            go_wp2_with fail
            go_ret
            exact ⟨by rw [HF.out HXY.out]; rfl, _, rfl⟩
        · skip
          have HXY := Lib.hid (show x ≠ y from fun e => h1 (by rw [e]))
          go_wp2_with fail
          go_quiet (fail)
          rw [World.drewN_drewN]
          go_wp2_with fail
          go_ret
          exact ⟨by rw [HF.out HXY.out]; rfl, _, rfl⟩
      · have HE := Lib.hid (show decide (l = m) = true from decide_eq_true (same_end HNE.out (fun i h => HN.out i h (by omega) (by omega))))
        go_wp2_with fail
        go_ret
        exact ⟨by rw [HE.out]; rfl, _, rfl⟩
  · have t1 : ((l.length : Int) != (m.length : Int)) = true := by simp; omega
    have HE := Lib.hid (show decide (l = m) = false from decide_eq_false fun e => hne (by rw [e]))
    clear hne
    go_enter Try.func82, Try.ntmps82
    go_wp2_with fail
    go_ret
    exact ⟨by rw [HE.out]; rfl, 0, rfl⟩

theorem equal_tv (l m : List (Int × Int)) (v v' : Value) (w : World) (hl : l.length < 1000000) (hm : m.length < 1000000) (h : TV w l v) (h' : TV w m v') :
    Calls Try.prog 43 #[.agg #[v], .agg #[v']] w fun e w' => More w w' ∧ e = .returned (.bool (decide (l = m))) := by
  obtain ⟨a, cap, rfl, hr, _⟩ := h
  obtain ⟨a', cap', rfl, hr', _⟩ := h'
  have HR := Lib.hid hr; clear hr
  have HR' := Lib.hid hr'; clear hr'
  go_enter Try.func43, Try.ntmps43
  go_wp2_with fail
  have HM := Lib.hid (show More w ((w.alloc (.cells #[.slice a l.length cap] 54)).alloc (.cells #[.slice a' m.length cap'] 54)) from grownBy_alloc2 _ _ _ _)
  refine (sEqual_any _ _ l m _ _ _ (by omega) (by omega) (HR.out.below HM.out.below) (HR'.out.below HM.out.below)).mono ?_
  rintro e w1 ⟨rfl, n, rfl⟩
  go_wp2_with fail
  go_ret
  exact ⟨more_trans HM.out (grownBy_drewN _ _ _), rfl⟩
end Go.Proofs.Ytekhoanjpnjaeaa
