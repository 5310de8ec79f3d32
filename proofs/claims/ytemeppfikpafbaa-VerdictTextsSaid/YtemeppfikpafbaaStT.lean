/- slices.SortFunc (139, 184) of at most 12 causes with a status, as verdict.Combine calls it. -/
import Derived.Test.YtemeppfikpafbaaVclT
import Derived.Test.YtemeppfikpafbaaShelfA
import Derived.StillTailTactics
namespace Go.Proofs.Ytemeppfikpafbaa
open Go.RowKit Go.Sort Go.Shelf
set_option maxRecDepth 100000 in
set_option maxHeartbeats 4000000 in
theorem sortT_any (d : Array Tld) (B cap PB CP : Nat) (w : World) (hn : d.size ≤ 12) (hH : HoldC tC 5 w B 0 d) (hP : ∀ i, i < d.size → ∀ W, w.grownBy W (some B) → TldAt W d[i]!)
    (hp : w.heap[PB]? = some (.cells #[.func (.func 135) #[] #[]] 157)) (hcp : w.heap[CP]? = some (.cells #[.func (.func 182) #[] #[.pointer (some ⟨PB, 0, none⟩)]] 215)) (h1 : PB ≠ B) (h2 : CP ≠ B) :
    Calls Try.prog 139 #[.slice (some ⟨B, 0, none⟩) d.size cap, .func (.func 140) #[] #[.pointer (some ⟨CP, 0, none⟩)]] w fun e w' => e = .returned (.tuple #[]) ∧ w.grownBy w' (some B) ∧ HoldC tC 5 w' B 0 (insertionSort (ltOf cfT) d 0 d.size) := by
  have HI := Lib.hid (insT_any CP (fun x => ∀ W, w.grownBy W (some B) → TldAt W x) cfT d B 0 cap 0 d.size w (Nat.zero_le _) (Nat.le_refl _) (by omega) hH hP (fun x y W hx hy hW =>
    combine140_any x y CP PB W (hx W hW) (hy W hW) ((hW.block PB (blk_lt hp) (fun e => h1 (Option.some.inj e))).trans hp) ((hW.block CP (blk_lt hcp) (fun e => h2 (Option.some.inj e))).trans hcp)))
  have HS : ∀ (lim : Int) (W : World), W = w → Calls Try.prog 184 #[.slice (some ⟨B, 0, none⟩) d.size cap, .int .i64 0, .int .i64 d.size, .int .i64 lim, .func (.func 140) #[] #[.pointer (some ⟨CP, 0, none⟩)]] W fun e w' => e = .returned (.tuple #[]) ∧ w.grownBy w' (some B) ∧ HoldC tC 5 w' B 0 (insertionSort (ltOf cfT) d 0 d.size) := by
    rintro lim W rfl
    clear hH hP hp hcp h1 h2
    have t12 : decide ((d.size : Int) ≤ 12) = true := by simp; omega
    generalize hD : insertionSort (ltOf cfT) d 0 d.size = D at *
    clear hD
    generalize d.size = n at *
    go_enter Try.func184, Try.ntmps184
    go_wp2_with fail
    refine wp_loop_rounds 1 ?_
    rw [rounds_succ]
    go_wp2_with fail
    refine HI.out.mono ?_
    rintro e w1 ⟨rfl, hh1⟩
    have HH1 := Lib.hid hh1
    clear hh1
    go_wp2_with fail
    (try simp only [Exit.inBlock, Exit.then]); refine bodyPost_ret (results_none rfl _ _ _) rfl ?_
    exact ⟨rfl, HH1.out⟩
  have HS2 := Lib.hid (fun lim => HS lim w rfl)
  have HL := Lib.hid (show ∀ W, Calls Try.prog 119 #[.int .u64 (d.size : Int)] W fun e w' => e = .returned (.int .i64 (Lib.bitLen d.size : Nat)) ∧ w' = W from fun W => Any.bits_Len (SlLaysF0.n15.bits (P := Try.prog) (ρ := Try.sortTold_ren) { Try.sortTold with }) d.size W (by omega) (by omega))
  clear HS HI hH hP hp hcp h1 h2
  generalize hD : insertionSort (ltOf cfT) d 0 d.size = D at *
  clear hD
  generalize d.size = n at *
  go_enter Try.func139, Try.ntmps139
  go_wp2_with fail
  refine (HL.out _).mono ?_
  rintro e w1 ⟨rfl, hw1⟩
  subst w1
  go_wp2_with fail
  refine (HS2.out _).mono ?_
  rintro e w2 ⟨rfl, hh2⟩
  have HH2 := Lib.hid hh2
  clear hh2
  go_wp2_with fail
  go_end0
  exact ⟨rfl, HH2.out⟩
end Go.Proofs.Ytemeppfikpafbaa
