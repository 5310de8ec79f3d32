/- verdict.compare (134), its closure (182), Combine's first closure (137), status (138), Status.Text (47). -/
import Derived.Test.YtemeppfikpafbaaCauC
import Derived.Test.YtemeppfikpafbaaInsF
import Derived.Laws.EntriesVeiled
namespace Go.Proofs.Ytemeppfikpafbaa
open Go.RowKit Go.Sort
/-- The comparison of causes. -/
def sgnC (c d : Cau) : Int := if cmpCau c d < 0 then -1 else if cmpCau d c < 0 then 1 else 0
set_option maxRecDepth 100000 in
theorem compare134_any (w : World) : Calls Try.prog 134 #[.func (.func 135) #[] #[]] w fun e w' => e = .returned (.func (.func 182) #[] #[.pointer (some ⟨w.heap.size, 0, none⟩)]) ∧ w' = w.alloc (.cells #[.func (.func 135) #[] #[]] 157) := by
  go_enter Try.func134, Try.ntmps134
  go_wp2_with fail
  go_ret
  exact ⟨rfl, rfl⟩
set_option maxRecDepth 100000 in
set_option maxHeartbeats 4000000 in
theorem compare182_any (c d : Cau) (cu ch du dh : Value) (PB : Nat) (w : World) (hc : CauAt w c cu ch) (hd : CauAt w d du dh) (hp : w.heap[PB]? = some (.cells #[.func (.func 135) #[] #[]] 157)) :
    Calls Try.prog 182 #[.agg #[cu, ch], .agg #[du, dh], .pointer (some ⟨PB, 0, none⟩)] w fun e w' => e = .returned (.int .i64 (sgnC c d)) ∧ More w w' := by
  have H1 := Lib.hid (fun W (hW : More w W) => lessCause_any c d cu ch du dh W (hc.more hW) (hd.more hW))
  have H2 := Lib.hid (fun W (hW : More w W) => lessCause_any d c du dh cu ch W (hd.more hW) (hc.more hW))
  have HS := Lib.hid (show sgnC c d = if decide (cmpCau c d < 0) = true then -1 else if decide (cmpCau d c < 0) = true then 1 else 0 by unfold sgnC; simp)
  rw [HS.out]
  clear HS
  generalize decide (cmpCau c d < 0) = q1 at *
  generalize decide (cmpCau d c < 0) = q2 at *
  obtain ⟨cua, cuc, rfl, _⟩ := hc.ru.shape
  obtain ⟨cha, chc, rfl, _⟩ := hc.rh.shape
  obtain ⟨dua, duc, rfl, _⟩ := hd.ru.shape
  obtain ⟨dha, dhc, rfl, _⟩ := hd.rh.shape
  have HP := Lib.hid hp
  clear hc hd hp
  generalize c.undo.length = n1 at *
  generalize c.hold.length = n2 at *
  generalize d.undo.length = n3 at *
  generalize d.hold.length = n4 at *
  go_enter Try.func182, Try.ntmps182
  go_upto_region 1 with (fail)
  obtain ⟨b1, b2, hm⟩ := boxed2 w (.cells #[.slice cua n1 cuc, .slice cha n2 chc] 30) (.cells #[.slice dua n3 duc, .slice dha n4 dhc] 30)
  generalize (w.alloc (.cells #[.slice cua n1 cuc, .slice cha n2 chc] 30)).alloc (.cells #[.slice dua n3 duc, .slice dha n4 dhc] 30) = w2 at *
  have HM2 := Lib.hid hm.1
  have HAB := Lib.hid b1
  have HBB := Lib.hid b2
  clear b1 b2 hm
  obtain ⟨BB, HBE⟩ : ∃ BB, Hid (BB = w.heap.size + 1) := ⟨_, Lib.hid rfl⟩
  rw [← HBE.out] at HBB ⊢
  obtain ⟨AB, HAE⟩ : ∃ AB, Hid (AB = w.heap.size) := ⟨_, Lib.hid rfl⟩
  rw [← HAE.out] at HAB ⊢
  have HP2 := Lib.hid ((HM2.out.block (blk_lt HP.out)).trans HP.out)
  have a0 : w2.cell? ⟨AB, 0, none⟩ = some (.slice cua n1 cuc) := cell_of_blk HAB.out rfl
  have a1 : w2.cell? ⟨AB, 1, none⟩ = some (.slice cha n2 chc) := cell_of_blk HAB.out rfl
  have c0 : w2.cell? ⟨BB, 0, none⟩ = some (.slice dua n3 duc) := cell_of_blk HBB.out rfl
  have c1 : w2.cell? ⟨BB, 1, none⟩ = some (.slice dha n4 dhc) := cell_of_blk HBB.out rfl
  have p0 : w2.cell? ⟨PB, 0, none⟩ = some (.func (.func 135) #[] #[]) := cell_of_blk HP2.out rfl
  have ha := cell_lt a0
  have hb := cell_lt c0
  have hpb := cell_lt p0
  go_wp2_with fail
  refine (H1.out _ HM2.out).mono ?_
  rintro e w3 ⟨rfl, hm3⟩
  have HM3 := Lib.hid (more_trans HM2.out hm3)
  have HAB3 := Lib.hid ((hm3.block (blk_lt HAB.out)).trans HAB.out)
  have HBB3 := Lib.hid ((hm3.block (blk_lt HBB.out)).trans HBB.out)
  have HP3 := Lib.hid ((hm3.block (blk_lt HP2.out)).trans HP2.out)
  clear hm3 a0 a1 c0 c1 p0 ha hb hpb
  cases q1 with
  | true =>
    go_wp2_with fail
    go_ret
    exact ⟨rfl, HM3.out⟩
  | false =>
    have a0 : w3.cell? ⟨AB, 0, none⟩ = some (.slice cua n1 cuc) := cell_of_blk HAB3.out rfl
    have a1 : w3.cell? ⟨AB, 1, none⟩ = some (.slice cha n2 chc) := cell_of_blk HAB3.out rfl
    have c0 : w3.cell? ⟨BB, 0, none⟩ = some (.slice dua n3 duc) := cell_of_blk HBB3.out rfl
    have c1 : w3.cell? ⟨BB, 1, none⟩ = some (.slice dha n4 dhc) := cell_of_blk HBB3.out rfl
    have p0 : w3.cell? ⟨PB, 0, none⟩ = some (.func (.func 135) #[] #[]) := cell_of_blk HP3.out rfl
    have ha := cell_lt a0
    have hb := cell_lt c0
    have hpb := cell_lt p0
    go_wp2_with fail
    refine (H2.out _ HM3.out).mono ?_
    rintro e w4 ⟨rfl, hm4⟩
    have HM4 := Lib.hid (more_trans HM3.out hm4)
    clear hm4 a0 a1 c0 c1 p0 ha hb hpb
    cases q2 with
    | true =>
      go_wp2_with fail
      go_ret
      exact ⟨rfl, HM4.out⟩
    | false =>
      go_wp2_with fail
      go_ret
      exact ⟨rfl, HM4.out⟩
/-- A found cause whose elements lie where it says. -/
def FndAt (w : World) (x : Fnd) : Prop := CauAt w x.c (.slice x.ua x.un x.uc) (.slice x.ha x.hn x.hc)
set_option maxRecDepth 100000 in
set_option maxHeartbeats 4000000 in
theorem combine137_any (x y : Fnd) (CP PB : Nat) (w : World) (hx : FndAt w x) (hy : FndAt w y) (hp : w.heap[PB]? = some (.cells #[.func (.func 135) #[] #[]] 157)) (hcp : w.heap[CP]? = some (.cells #[.func (.func 182) #[] #[.pointer (some ⟨PB, 0, none⟩)]] 215)) :
    Calls Try.prog 137 #[.agg #[.slice x.ua x.un x.uc, .slice x.ha x.hn x.hc, .int .i64 x.n], .agg #[.slice y.ua y.un y.uc, .slice y.ha y.hn y.hc, .int .i64 y.n], .pointer (some ⟨CP, 0, none⟩)] w fun e w' => e = .returned (.int .i64 (sgnC x.c y.c)) ∧ More w w' := by
  have H1 := Lib.hid (fun W (hW : More w W) => compare182_any x.c y.c _ _ _ _ PB W (CauAt.more hx hW) (CauAt.more hy hW) ((hW.block (blk_lt hp)).trans hp))
  have HCP := Lib.hid hcp
  clear hx hy hp hcp
  generalize sgnC x.c y.c = r at *
  obtain ⟨xc, xua, xun, xuc, xha, xhn, xhc, xn⟩ := x
  obtain ⟨yc, yua, yun, yuc, yha, yhn, yhc, yn⟩ := y
  dsimp only at *
  clear xc yc
  go_enter Try.func137, Try.ntmps137
  go_upto_region 1 with (fail)
  obtain ⟨b1, b2, hm⟩ := boxed2 w (.cells #[.slice xua xun xuc, .slice xha xhn xhc, .int .i64 xn] 214) (.cells #[.slice yua yun yuc, .slice yha yhn yhc, .int .i64 yn] 214)
  generalize (w.alloc (.cells #[.slice xua xun xuc, .slice xha xhn xhc, .int .i64 xn] 214)).alloc (.cells #[.slice yua yun yuc, .slice yha yhn yhc, .int .i64 yn] 214) = w2 at *
  have HM2 := Lib.hid hm.1
  have HCP2 := Lib.hid ((hm.1.block (blk_lt HCP.out)).trans HCP.out)
  have a0 : w2.cell? ⟨w.heap.size, 0, none⟩ = some (.slice xua xun xuc) := cell_of_blk b1 rfl
  have a1 : w2.cell? ⟨w.heap.size, 1, none⟩ = some (.slice xha xhn xhc) := cell_of_blk b1 rfl
  have c0 : w2.cell? ⟨w.heap.size + 1, 0, none⟩ = some (.slice yua yun yuc) := cell_of_blk b2 rfl
  have c1 : w2.cell? ⟨w.heap.size + 1, 1, none⟩ = some (.slice yha yhn yhc) := cell_of_blk b2 rfl
  have p0 : w2.cell? ⟨CP, 0, none⟩ = some (.func (.func 182) #[] #[.pointer (some ⟨PB, 0, none⟩)]) := cell_of_blk HCP2.out rfl
  have ha := cell_lt a0
  have hb := cell_lt c0
  have hpb := cell_lt p0
  clear b1 b2 hm
  go_wp2_with fail
  refine (H1.out _ HM2.out).mono ?_
  rintro e w3 ⟨rfl, hm3⟩
  have HM3 := Lib.hid (more_trans HM2.out hm3)
  clear hm3 a0 a1 c0 c1 p0 ha hb hpb
  go_wp2_with fail
  go_ret
  exact ⟨rfl, HM3.out⟩
theorem status138_any (a b : Bool) (w : World) : Calls Try.prog 138 #[.bool a, .bool b] w fun e w' => e = .returned (.int .u8 (if a then (if b then 1 else 3) else 2)) ∧ w' = w := by
  go_enter Try.func138, Try.ntmps138
  cases a <;> cases b
  all_goals
    go_wp2_with fail
    go_ret
    exact ⟨rfl, rfl⟩
end Go.Proofs.Ytemeppfikpafbaa
