/- ref09.Same (34); slices.Equal at entries (82); Table.Equal (43). -/
import Derived.Test.YtekhoanjpnjaeaaRefTab
import Derived.Laws.StructEq
namespace Go.Proofs.Ytekhoanjpnjaeaa
open Go.RowKit

theorem guard66 : Try.prog.eqGuardType Try.prog.depth 66 = false := by kernel_rfl
theorem u66 : Try.prog.underlying 66 = some (.array 2 2) := by kernel_rfl
theorem run_size2 (w : World) : (Go.sizeOf 2).run Try.prog w = .ok 1 w := by kernel_rfl
theorem run_part0 (a b : Value) (w : World) : (part 2 #[a, b] (0 * 1)).run Try.prog w = .ok a w := by kernel_rfl
theorem run_part1 (a b : Value) (w : World) : (part 2 #[a, b] (1 * 1)).run Try.prog w = .ok b w := by kernel_rfl
theorem run_part1' (a b : Value) (w : World) : (part 2 #[a, b] 1).run Try.prog w = .ok b w := by kernel_rfl
theorem run_eq66 (a b c d : Int) (w : World) : (Op.equalIn 10000 66 (.agg #[.int .i64 a, .int .i64 b]) (.agg #[.int .i64 c, .int .i64 d])).run Try.prog w = .ok (a == c && b == d) w := by
  show (Op.equalIn (9998 + 1 + 1) 66 (.agg #[.int .i64 a, .int .i64 b]) (.agg #[.int .i64 c, .int .i64 d])).run Try.prog w = _
  rw [Op.equalIn]
  simp only [run_underlying u66, Sem.run_bind, Result.andThen]
  rw [run_size2]
  simp only []
  simp only [Std.Legacy.Range.forIn_eq_forIn_range']
  rw [show List.range' 0 [:2].size = [0, 1] from rfl]
  simp only [List.forIn_cons, List.forIn_nil]
  simp only [Sem.run_bind, run_part0, Result.andThen, run_equalIn_int _ _ _ _ _ _ _ Try.underlying2]
  cases h1 : (a == c) <;> cases h2 : (b == d) <;> simp [Sem.run_bind, run_part1', Result.andThen, run_equalIn_int _ _ _ _ _ _ _ Try.underlying2, h2]
attribute [local go_sem] run_eq66
theorem same_end {a b : List (Int × Int)} (hl : a.length = b.length) (h : ∀ i (h : i < a.length), a[i] = b[i]'(by omega)) : a = b := List.ext_getElem hl fun i h1 _h2 => h i h1

set_option maxRecDepth 100000 in
set_option maxHeartbeats 1000000 in
theorem rsame_any (S S' : Nat → Prop) (l m : List (Int × Int)) (v v' : Value) (w : World) (_hl : l.length < 4294967296) (hm : m.length < 4294967296) (h : Row S w 2 l.length v (flat2 l)) (h' : Row S' w 2 m.length v' (flat2 m)) :
    Calls Try.prog 34 #[v, v'] w fun e w' => e = .returned (.bool (decide (l = m))) ∧ ∃ n, w' = w.drewN n := by
  obtain ⟨a, cap, rfl, hcap⟩ := h.shape
  obtain ⟨a', cap', rfl, hcap'⟩ := h'.shape
  have HR := Lib.hid h; clear h
  have HR' := Lib.hid h'; clear h'
  by_cases hne : l.length = m.length
  · have t1 : ((l.length : Int) != (m.length : Int)) = false := by simp [hne]
    have HNE := Lib.hid hne
    have hle : l.length ≤ m.length := by omega
    clear hne
    go_enter Try.func34, Try.ntmps34
    go_wp2_with fail
    go_loopw [13] (fun i wr => ∃ j n : Nat, j ≤ l.length ∧ i = .int .i64 j ∧ wr = w.drewN n ∧ Hid (∀ i (h : i < l.length) (h' : i < m.length), i < j → l[i] = m[i])) (fun i _ => l.length - (intOf i).toNat)
    case atStart => exact ⟨0, 0, Nat.zero_le _, rfl, rfl, Lib.hid fun _ _ _ h => absurd h (Nat.not_lt_zero _)⟩
    case round =>
      obtain ⟨j, n, hj, rfl, rfl, HN⟩ := hrel
      by_cases hlt : j < l.length
      · have hlt' : j < m.length := by omega
        obtain ⟨b, off, rfl, _, _, hc⟩ := HR.out.at (by omega)
        obtain ⟨b', off', rfl, _, _, hc'⟩ := HR'.out.at (by omega)
        have g0 : w.cell? _ = _ := hc _ _ (flat2_get l j hlt).1
        have g1 : w.cell? _ = _ := hc _ _ (flat2_get l j hlt).2
        have k0 : w.cell? _ = _ := hc' _ _ (flat2_get m j hlt').1
        have k1 : w.cell? _ = _ := hc' _ _ (flat2_get m j hlt').2
        rw [← Nat.add_assoc] at g1 k1
        clear hc hc'
        have HF := Lib.hid (fun (hh : l[j] ≠ m[j]) => show decide (l = m) = false from decide_eq_false fun e => hh (by subst e; rfl))
        have HK := Lib.hid (fun (hh : l[j] = m[j]) i (h : i < l.length) (h' : i < m.length) (hij : i < j + 1) => show l[i] = m[i] by
          by_cases e : i = j
          · subst e; exact hh
          · exact HN.out i h h' (by omega))
        generalize l[j] = x at *
        generalize m[j] = y at *
        have hgd := guard66
        cases hb : (x.1 == y.1 && x.2 == y.2) with
        | true =>
          have HXY := Lib.hid (show x = y by
            have h := Bool.and_eq_true _ _ ▸ hb
            cases x; cases y; simp at h; simp [h])
          go_wp2_with fail
          go_quiet (fail)
          rw [World.drewN_drewN]
          go_wp2_with fail
          go_roundw
          case rel => exact ⟨j + 1, _, by omega, by go_num, rfl, Lib.hid (HK.out HXY.out)⟩
          case measure => simp [intOf]; omega
        | false =>
          have HXY := Lib.hid (show x ≠ y from fun e => by subst e; simp at hb)
          go_wp2_with fail
          go_quiet (fail)
          rw [World.drewN_drewN]
          go_wp2_with fail
          go_ret
          exact ⟨by rw [HF.out HXY.out]; rfl, _, rfl⟩
      · have HE := Lib.hid (show decide (l = m) = true from decide_eq_true (same_end HNE.out (fun i h => HN.out i h (by omega) (by omega))))
        go_wp2_with fail
        go_ret
        exact ⟨by rw [HE.out]; rfl, _, rfl⟩
  · have t1 : ((l.length : Int) != (m.length : Int)) = true := by simp; omega
    have HE := Lib.hid (show decide (l = m) = false from decide_eq_false fun e => hne (by rw [e]))
    clear hne
    go_enter Try.func34, Try.ntmps34
    go_wp2_with fail
    go_ret
    exact ⟨by rw [HE.out]; rfl, 0, rfl⟩
end Go.Proofs.Ytekhoanjpnjaeaa
