/- slices.SortStableFunc (136, 183) of at most 19 found causes, as verdict.Combine calls it. -/
import Derived.Test.YtemeppfikpafbaaVclC
namespace Go.Proofs.Ytemeppfikpafbaa
open Go.RowKit Go.Sort
def cfF (x y : Fnd) : Int := sgnC x.c y.c
set_option maxRecDepth 100000 in
set_option maxHeartbeats 4000000 in
theorem stableF_any (d : Array Fnd) (B cap PB CP : Nat) (w : World) (hn : d.size ≤ 19) (hH : HoldC fC 3 w B 0 d) (hP : ∀ i, i < d.size → ∀ W, w.grownBy W (some B) → FndAt W d[i]!)
    (hp : w.heap[PB]? = some (.cells #[.func (.func 135) #[] #[]] 157)) (hcp : w.heap[CP]? = some (.cells #[.func (.func 182) #[] #[.pointer (some ⟨PB, 0, none⟩)]] 215)) (h1 : PB ≠ B) (h2 : CP ≠ B) :
    Calls Try.prog 136 #[.slice (some ⟨B, 0, none⟩) d.size cap, .func (.func 137) #[] #[.pointer (some ⟨CP, 0, none⟩)]] w fun e w' => e = .returned (.tuple #[]) ∧ w.grownBy w' (some B) ∧ HoldC fC 3 w' B 0 (insertionSort (ltOf cfF) d 0 d.size) := by
  have HI := Lib.hid (insF_any CP (fun x => ∀ W, w.grownBy W (some B) → FndAt W x) cfF d B 0 cap 0 d.size w (Nat.zero_le _) (Nat.le_refl _) (by omega) hH hP (fun x y W hx hy hW =>
    combine137_any x y CP PB W (hx W hW) (hy W hW) ((hW.block PB (blk_lt hp) (fun e => h1 (Option.some.inj e))).trans hp) ((hW.block CP (blk_lt hcp) (fun e => h2 (Option.some.inj e))).trans hcp)))
  have HS : ∀ W : World, W = w → Calls Try.prog 183 #[.slice (some ⟨B, 0, none⟩) d.size cap, .int .i64 d.size, .func (.func 137) #[] #[.pointer (some ⟨CP, 0, none⟩)]] W fun e w' => e = .returned (.tuple #[]) ∧ w.grownBy w' (some B) ∧ HoldC fC 3 w' B 0 (insertionSort (ltOf cfF) d 0 d.size) := by
    rintro W rfl
    clear hH hP hp hcp h1 h2
    generalize hD : insertionSort (ltOf cfF) d 0 d.size = D at *
    clear hD
    generalize d.size = n at *
    go_enter Try.func183, Try.ntmps183
    go_wp2_with fail
    refine wp_loop_rounds 1 ?_
    rw [rounds_succ]
    go_wp2_with fail
    refine HI.out.mono ?_
    rintro e w1 ⟨rfl, hg1, hh1⟩
    have HG1 := Lib.hid hg1
    have HH1 := Lib.hid hh1
    clear hg1 hh1
    go_wp2_with fail
    refine wp_loop_rounds 1 ?_
    rw [rounds_succ]
    go_wp2_with fail
    go_end0
    exact ⟨rfl, HG1.out, HH1.out⟩
  have HS2 := Lib.hid (HS w rfl)
  clear HS HI hH hP hp hcp h1 h2
  generalize hD : insertionSort (ltOf cfF) d 0 d.size = D at *
  clear hD
  generalize d.size = n at *
  go_enter Try.func136, Try.ntmps136
  go_wp2_with fail
  refine HS2.out.mono ?_
  rintro e w1 ⟨rfl, hg1, hh1⟩
  have HG1 := Lib.hid hg1
  have HH1 := Lib.hid hh1
  clear hg1 hh1
  go_wp2_with fail
  go_end0
  exact ⟨rfl, HG1.out, HH1.out⟩
end Go.Proofs.Ytemeppfikpafbaa
