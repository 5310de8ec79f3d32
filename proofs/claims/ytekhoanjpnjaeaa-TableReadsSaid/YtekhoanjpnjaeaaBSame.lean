/- ref01.Same (46). -/
import Derived.Test.YtekhoanjpnjaeaaTByt
namespace Go.Proofs.Ytekhoanjpnjaeaa
open Go.RowKit

theorem bV_get (l : List Int) (j : Nat) (h : j < l.length) : (bV l)[j]? = some (.int .u8 l[j]) := by simp [bV, h]
set_option maxRecDepth 100000 in
set_option maxHeartbeats 1000000 in
theorem bsame_any (S S' : Nat → Prop) (l m : List Int) (v v' : Value) (w : World) (_hl : l.length ≤ 140737488355328) (hm : m.length ≤ 140737488355328) (h : ByV S w l v) (h' : ByV S' w m v') :
    Calls Try.prog 46 #[v, v'] w fun e w' => e = .returned (.bool (decide (l = m))) ∧ ∃ n, w' = w.drewN n := by
  obtain ⟨a, cap, rfl, h, _⟩ := h
  obtain ⟨a', cap', rfl, h', _⟩ := h'
  have HR := Lib.hid h; clear h
  have HR' := Lib.hid h'; clear h'
  by_cases hne : l.length = m.length
  · have t1 : ((l.length : Int) != (m.length : Int)) = false := by simp [hne]
    have HNE := Lib.hid hne
    have hle : l.length ≤ m.length := by omega
    clear hne
    go_enter Try.func46, Try.ntmps46
    go_wp2_with fail
    go_loopw [5] (fun i wr => ∃ j n : Nat, j ≤ l.length ∧ i = .int .i64 j ∧ wr = w.drewN n ∧ Hid (∀ i (h : i < l.length) (h' : i < m.length), i < j → l[i] = m[i])) (fun i _ => l.length - (intOf i).toNat)
    case atStart => exact ⟨0, 0, Nat.zero_le _, rfl, rfl, Lib.hid fun _ _ _ h => absurd h (Nat.not_lt_zero _)⟩
    case round =>
      obtain ⟨j, n, hj, rfl, rfl, HN⟩ := hrel
      by_cases hlt : j < l.length
      · have hlt' : j < m.length := by omega
        obtain ⟨b, off, rfl, _, _, hc⟩ := HR.out.at (by omega)
        obtain ⟨b', off', rfl, _, _, hc'⟩ := HR'.out.at (by omega)
        have g0 : w.cell? _ = _ := hc _ _ (bV_get l j hlt)
        have k0 : w.cell? _ = _ := hc' _ _ (bV_get m j hlt')
        clear hc hc'
        have HF := Lib.hid (fun (hh : l[j] ≠ m[j]) => show decide (l = m) = false from decide_eq_false fun e => hh (by subst e; rfl))
        have HK := Lib.hid (fun (hh : l[j] = m[j]) i (h : i < l.length) (h' : i < m.length) (hij : i < j + 1) => show l[i] = m[i] by
          by_cases e : i = j
          · subst e; exact hh
          · exact HN.out i h h' (by omega))
        generalize l[j] = x at *
        generalize m[j] = y at *
        by_cases hb : x = y
        · have t2 : (x != y) = false := by simp [hb]
          have HXY := Lib.hid hb; clear hb
          go_wp2_with fail
          go_quiet (fail)
          rw [World.drewN_drewN]
          go_wp2_with fail
          go_roundw
          case rel => exact ⟨j + 1, _, by omega, by go_num, rfl, Lib.hid (HK.out HXY.out)⟩
          case measure => simp [intOf]; omega
        · have t2 : (x != y) = true := by simpa using hb
          have HXY := Lib.hid hb; clear hb
          go_wp2_with fail
          go_quiet (fail)
          rw [World.drewN_drewN]
          go_wp2_with fail
          go_ret
          exact ⟨by rw [HF.out HXY.out]; rfl, _, rfl⟩
      · have HE := Lib.hid (show decide (l = m) = true from decide_eq_true (List.ext_getElem HNE.out (fun i h1 h2 => HN.out i h1 h2 (by omega))))
        go_wp2_with fail
        go_ret
        exact ⟨by rw [HE.out]; rfl, _, rfl⟩
  · have t1 : ((l.length : Int) != (m.length : Int)) = true := by simp; omega
    have HE := Lib.hid (show decide (l = m) = false from decide_eq_false fun e => hne (by rw [e]))
    clear hne
    go_enter Try.func46, Try.ntmps46
    go_wp2_with fail
    go_ret
    exact ⟨by rw [HE.out]; rfl, 0, rfl⟩
end Go.Proofs.Ytekhoanjpnjaeaa
