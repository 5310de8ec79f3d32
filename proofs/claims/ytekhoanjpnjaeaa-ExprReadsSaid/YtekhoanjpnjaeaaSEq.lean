/- slices.Equal at names (56), of two lists that read alike. -/
import Derived.Test.YtekhoanjpnjaeaaRAdd
namespace Go.Proofs.Ytekhoanjpnjaeaa
open Go.RowKit
set_option maxRecDepth 100000 in
set_option maxHeartbeats 1000000 in
theorem seqS_any (S S' : Nat → Prop) (l : List ByteArray) (v v' : Value) (w : World) (hl : l.length ≤ 1000000) (h : Row S w 1 l.length v (sV l)) (h' : Row S' w 1 l.length v' (sV l)) :
    Calls Try.prog 56 #[v, v'] w fun e w' => e = .returned (.bool true) ∧ ∃ n, w' = w.drewN n := by
  obtain ⟨a, cap, rfl, _⟩ := h.shape
  obtain ⟨a', cap', rfl, _⟩ := h'.shape
  have HR := Lib.hid h; clear h
  have HR' := Lib.hid h'; clear h'
  have t1 : ((l.length : Int) != (l.length : Int)) = false := by simp
  go_enter Try.func56, Try.ntmps56
  go_wp2_with fail
  go_loopw [13] (fun i wr => ∃ j n : Nat, j ≤ l.length ∧ i = .int .i64 j ∧ wr = w.drewN n) (fun i _ => l.length - (intOf i).toNat)
  case atStart => exact ⟨0, 0, Nat.zero_le _, rfl, rfl⟩
  case round =>
    obtain ⟨j, n, hj, rfl, rfl⟩ := hrel
    by_cases hlt : j < l.length
    · obtain ⟨b, off, rfl, _, _, hc⟩ := HR.out.at (by omega)
      obtain ⟨b', off', rfl, _, _, hc'⟩ := HR'.out.at (by omega)
      have g0 : w.cell? _ = _ := hc _ _ (sV_get l j hlt)
      have k0 : w.cell? _ = _ := hc' _ _ (sV_get l j hlt)
      clear hc hc'
      generalize l[j] = x at *
      have t2 : (x.toList == x.toList) = true := by simp
      go_wp2_with fail
      go_quiet (fail)
      rw [World.drewN_drewN]
      go_wp2_with fail
      go_roundw
      case rel => exact ⟨j + 1, _, by omega, by go_num, rfl⟩
      case measure => simp [intOf]; omega
    · go_wp2_with fail
      go_ret
      exact ⟨rfl, _, rfl⟩
end Go.Proofs.Ytekhoanjpnjaeaa
