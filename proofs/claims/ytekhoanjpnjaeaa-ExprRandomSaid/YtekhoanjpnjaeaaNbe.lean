/- Texts MkX, laid together. -/
import Derived.Test.YtekhoanjpnjaeaaNz
import Derived.Test.YtekhoanjpnjaeaaNba
import Derived.Test.YtekhoanjpnjaeaaNbb
import Derived.Test.YtekhoanjpnjaeaaNbc
import Derived.Test.YtekhoanjpnjaeaaNbd
/- (*maker).stmt (141) and (*maker).body (133), whole. -/
namespace Go.Proofs.Ytekhoanjpnjaeaa
open Go.RowKit
theorem stmt_up {w : World} {MB : Nat} {d : MkD} {prm left : Int} {k dp : Int} (h0 : 0 ≤ left)
    (h : Calls Try.prog 141 #[.pointer (some ⟨MB, 0, none⟩), .int .i64 k, .int .i64 dp] w fun e w' => ∃ cs l', e = .returned (.agg cs.toArray) ∧ StmtC (fun b => w.heap.size ≤ b) w' cs ∧ MkAt w' MB d prm left l' ∧ w.grownBy w' (some MB)) :
    Calls Try.prog 141 #[.pointer (some ⟨MB, 0, none⟩), .int .i64 k, .int .i64 dp] w fun e w' => ∃ cs left' l', e = .returned (.agg cs.toArray) ∧ StmtC (fun b => w.heap.size ≤ b) w' cs ∧ MkAt w' MB d prm left' l' ∧ 0 ≤ left' ∧ left' ≤ left ∧ w.grownBy w' (some MB) :=
  h.mono fun _e _w' ⟨cs, l', h1, h2, h3, h4⟩ => ⟨cs, left, l', h1, h2, h3, h0, Int.le_refl _, h4⟩
theorem stmt_of (f : Nat) (hb : ∀ g, f = g + 1 → BodySaid g) : StmtSaid f := by
  intro MB d prm left k dp l w h hd hfl har hk0 hk9 hl0 hl9 hdp h0
  have hk : k = 0 ∨ k = 1 ∨ k = 2 ∨ k = 3 ∨ k = 4 ∨ k = 5 ∨ k = 6 ∨ k = 7 ∨ k = 8 ∨ k = 9 ∨ k = 10 ∨ k = 11 ∨ k = 12 := by omega
  have hnest : dp < 3 → ∃ g : Nat, BodySaid g ∧ dp + 1 + (g : Int) = 3 := fun hd3 => by
    obtain ⟨g, hg⟩ : ∃ g, f = g + 1 := ⟨f - 1, by omega⟩
    exact ⟨g, hb g hg, by omega⟩
  rcases hk with rfl | rfl | rfl | rfl | rfl | rfl | rfl | rfl | rfl | rfl | rfl | rfl | rfl
  · exact stmt_up hl0 (stmt0_any MB d prm left dp l w h hd)
  · exact stmt_up hl0 (stmt1d_any MB d prm left dp l w h hd)
  · exact stmt_up hl0 (stmt2_any MB d prm left dp l w h hd hfl)
  · by_cases ht : 0 < d.tables
    · exact stmt_up hl0 (stmt3_any MB d prm left dp l w h hd ht)
    · exact stmt_up hl0 (stmt3d_any MB d prm left dp l w h hd (by omega))
  · by_cases ht : 0 < d.tables
    · exact stmt_up hl0 (stmt4_any MB d prm left dp l w h hd ht)
    · exact stmt_up hl0 (stmt4d_any MB d prm left dp l w h hd (by omega))
  · by_cases hd3 : dp < 3
    · obtain ⟨g, hg, hgd⟩ := hnest hd3
      exact stmt5_any g hg MB d prm left dp l w h hd hfl har hl0 hl9 hgd h0
    · exact stmt_up hl0 (stmt5d_any MB d prm left dp l w h hd (by omega))
  · by_cases hd3 : dp < 3
    · obtain ⟨g, hg, hgd⟩ := hnest hd3
      exact stmt6_any g hg MB d prm left dp l w h hd hfl har hl0 hl9 hgd h0
    · exact stmt_up hl0 (stmt6d_any MB d prm left dp l w h hd (by omega))
  · by_cases hd3 : dp < 2
    · obtain ⟨g, hg, hgd⟩ := hnest (by omega)
      exact stmt7_any g hg MB d prm left dp l w h hd hfl har hl0 hl9 hgd h0 hd3
    · exact stmt_up hl0 (stmt7d_any MB d prm left dp l w h hd (by omega))
  · exact stmt8_any MB d prm left dp l w h hd hfl har hl0 hl9
  · exact stmt9_any MB d prm left dp l w h hd hfl har hl0 hl9
  · exact stmt10_any MB d prm left dp l w h hd hfl har hl0 hl9
  · by_cases hd3 : dp < 3
    · obtain ⟨g, hg, hgd⟩ := hnest hd3
      exact stmt11_any g hg MB d prm left dp l w h hd hfl har hl0 hl9 hgd h0
    · exact stmt_up hl0 (stmt11d_any MB d prm left dp l w h hd (by omega))
  · by_cases hz : (nextB l 3).1 = 0
    · exact stmt_up hl0 (stmt12_any MB d prm left dp l w h hd hz)
    · exact stmt_up hl0 (stmt12d_any MB d prm left dp l w h hd hz)
theorem body_all : ∀ f, BodySaid f
  | 0 => body_of 0 (stmt_of 0 fun _ h => by cases h)
  | f + 1 => body_of (f + 1) (stmt_of (f + 1) fun g h => by injection h with h; rw [← h]; exact body_all f)
end Go.Proofs.Ytekhoanjpnjaeaa

