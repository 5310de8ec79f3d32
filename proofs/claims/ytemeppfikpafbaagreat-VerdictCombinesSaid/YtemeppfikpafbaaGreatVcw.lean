/- Texts Mk44C, AppQ, LsB, RnkP, laid together. -/
import Derived.Deep.RegionHeld3
import Derived.Deep.DeepCutAuto
import Derived.Test.YtemeppfikpafbaaGreatVcu
import Derived.Test.YtemeppfikpafbaaGreatVcv
/- law44's Raw.Cause (11). -/
namespace Go.Proofs.YtemeppfikpafbaaGreat
open Go.RowKit
set_option maxRecDepth 100000 in
set_option maxHeartbeats 4000000 in
theorem cause11_any (ks ms : List Int) (kv mv : Value) (w : World) (h : RawAt w ks ms kv mv) :
    Calls Tryz.prog 11 #[.agg #[kv, mv]] w fun e w' => (∃ c u h, e = .returned (.agg #[u, h]) ∧ CauS (fun b => w.heap.size ≤ b) w' c u h) ∧ Below w.heap.size w w' := by
  obtain ⟨ka, kc, rfl, _⟩ := h.rk.shape
  obtain ⟨ma, mc, rfl, _⟩ := h.rm.shape
  have HMK := Lib.hid (fun W (hW : More w W) => make26_any ks ms _ _ W (h.below hW.below))
  clear h
  generalize ks.length = nk at *
  generalize ms.length = nm at *
  obtain ⟨N, HN⟩ : ∃ N, Hid (N = w.heap.size) := ⟨_, Lib.hid rfl⟩
  go_enter Tryz.func11, Tryz.ntmps11
  go_upto_region 1 with (fail)
  have HX := Lib.hid (show ((w.alloc (.cells #[.slice ka nk kc, .slice ma nm mc] 41)).alloc (.cells #[.slice none 0 0, .slice none 0 0] 34)).heap[N]? = some (.cells #[.slice ka nk kc, .slice ma nm mc] 41) by
    rw [HN.out]
    exact ((more_alloc _ _).block (blk_lt (alloc_last w _))).trans (alloc_last w _))
  have HA := Lib.hid (show ((w.alloc (.cells #[.slice ka nk kc, .slice ma nm mc] 41)).alloc (.cells #[.slice none 0 0, .slice none 0 0] 34)).heap[N + 1]? = some (.cells #[.slice none 0 0, .slice none 0 0] 34) by
    rw [HN.out]
    have := alloc_last (w.alloc (.cells #[.slice ka nk kc, .slice ma nm mc] 41)) (.cells #[.slice none 0 0, .slice none 0 0] 34)
    simp only [World.size_alloc] at this
    exact this)
  have HM2 := Lib.hid (more_trans (more_alloc w (.cells #[.slice ka nk kc, .slice ma nm mc] 41)) (more_alloc _ (.cells #[.slice none 0 0, .slice none 0 0] 34)))
  generalize (w.alloc (.cells #[.slice ka nk kc, .slice ma nm mc] 41)).alloc (.cells #[.slice none 0 0, .slice none 0 0] 34) = w2 at *
  rw [← HN.out]
  have x0 : w2.cell? ⟨N, 0, none⟩ = some (.slice ka nk kc) := cell_of_blk HX.out rfl
  have x1 : w2.cell? ⟨N, 1, none⟩ = some (.slice ma nm mc) := cell_of_blk HX.out rfl
  have hxb := cell_lt x0
  go_wp2_with fail
  refine (HMK.out _ HM2.out).mono ?_
  rintro e w3 ⟨⟨c, u, h, rfl, hc⟩, hb3⟩
  obtain ⟨ua, uc, rfl, _⟩ := hc.ru.shape
  obtain ⟨ha, hcp, rfl, _⟩ := hc.rh.shape
  have HC := Lib.hid hc
  have HA3 := Lib.hid (((more_of hb3).block (blk_lt HA.out)).trans HA.out)
  have HSZ := Lib.hid (show N + 2 ≤ w2.heap.size by have := blk_lt HA.out; omega)
  have HB3 := Lib.hid (show Below N w w3 by rw [HN.out]; exact HM2.out.below.trans (hb3.mono HM2.out.size))
  have HSZ3 := Lib.hid hb3.size
  clear hc hb3 x0 x1 hxb
  generalize c.undo.length = nu at *
  generalize c.hold.length = nh at *
  go_upto_region 2 with (fail)
  have HT := Lib.hid (show ((w3.alloc (.cells #[.slice ua nu uc, .slice ha nh hcp] 34)).alloc (.cells #[.slice ua nu uc, .slice ha nh hcp] 72)).heap[w3.heap.size]? = some (.cells #[.slice ua nu uc, .slice ha nh hcp] 34) from ((more_alloc _ _).block (blk_lt (alloc_last w3 _))).trans (alloc_last w3 _))
  have HM4 := Lib.hid (more_trans (more_alloc w3 (.cells #[.slice ua nu uc, .slice ha nh hcp] 34)) (more_alloc _ (.cells #[.slice ua nu uc, .slice ha nh hcp] 72)))
  have HA4 := Lib.hid (((HM4.out.block (blk_lt HA3.out)).trans HA3.out))
  have HB4 := Lib.hid (HB3.out.trans (HM4.out.below.mono (by have := HB3.out.size; have := HSZ.out; have := HSZ3.out; omega)))
  have HC4 := Lib.hid (show CauS (fun b => N + 2 ≤ b) ((w3.alloc (.cells #[.slice ua nu uc, .slice ha nh hcp] 34)).alloc (.cells #[.slice ua nu uc, .slice ha nh hcp] 72)) c (.slice ua nu uc) (.slice ha nh hcp) from CauS.mono HC.out (fun b hb _ => by have h2 : w2.heap.size ≤ b := hb; have := HSZ.out; omega) (fun b _ hl => HM4.out.block hl))
  generalize (w3.alloc (.cells #[.slice ua nu uc, .slice ha nh hcp] 34)).alloc (.cells #[.slice ua nu uc, .slice ha nh hcp] 72) = w4 at *
  generalize w3.heap.size = TB at *
  have t0 : w4.cell? ⟨TB, 0, none⟩ = some (.slice ua nu uc) := cell_of_blk HT.out rfl
  have t1 : w4.cell? ⟨TB, 1, none⟩ = some (.slice ha nh hcp) := cell_of_blk HT.out rfl
  have a0 : w4.cell? ⟨N + 1, 0, none⟩ = some (.slice none 0 0) := cell_of_blk HA4.out rfl
  have a1 : w4.cell? ⟨N + 1, 1, none⟩ = some (.slice none 0 0) := cell_of_blk HA4.out rfl
  have f0 : w4.frozen? ⟨N + 1, 0, none⟩ = false := frz_of_blk HA4.out
  have f1 : w4.frozen? ⟨N + 1, 1, none⟩ = false := frz_of_blk HA4.out
  have htb := cell_lt t0
  have hab := cell_lt a0
  go_wp2_with fail
  have z := heap_set (o := 1) (heap_set (o := 0) HA4.out (.slice ua nu uc)) (.slice ha nh hcp)
  have c0 : ((w4.setCell ⟨N + 1, 0, none⟩ (.slice ua nu uc)).setCell ⟨N + 1, 1, none⟩ (.slice ha nh hcp)).cell? ⟨N + 1, 0, none⟩ = some (.slice ua nu uc) := cell_of_blk z rfl
  have c1 : ((w4.setCell ⟨N + 1, 0, none⟩ (.slice ua nu uc)).setCell ⟨N + 1, 1, none⟩ (.slice ha nh hcp)).cell? ⟨N + 1, 1, none⟩ = some (.slice ha nh hcp) := cell_of_blk z rfl
  refine bodyPost_ret (v := .agg #[.slice ua nu uc, .slice ha nh hcp]) (by simp [results, Tryz.results11, go_sem, c0, c1]) rfl ?_
  refine ⟨⟨c, _, _, rfl, ?_⟩, ?_⟩
  · rw [← HN.out]
    refine CauS.mono HC4.out (fun b hb _ => by have h2 : N + 2 ≤ b := hb; omega) (fun b hb _ => ?_)
    have h2 : N + 2 ≤ b := hb
    exact (Below.heap_setCell _ ⟨N + 1, 1, none⟩ _ b (show b ≠ N + 1 by omega)).trans (Below.heap_setCell w4 ⟨N + 1, 0, none⟩ _ b (show b ≠ N + 1 by omega))
  · rw [← HN.out]
    exact (HB4.out.setCell (p := ⟨N + 1, 0, none⟩) (by show N ≤ N + 1; omega) _).setCell (p := ⟨N + 1, 1, none⟩) (by show N ≤ N + 1; omega) _
end Go.Proofs.YtemeppfikpafbaaGreat

/- Appends of any row, and slices of rows, at causes (25), lists of causes (37), the reference's results (46). -/
namespace Go.Proofs.YtemeppfikpafbaaGreat
open Go.RowKit
theorem wp_append_rowC {w : World} {o : Oper} {a : Act} {K : Act → World → Prop} {Q : Exit → Act → World → Prop} (s x : Operand) (t : TypeId)
    (ho : o.op = .call { callee := .builtin .append, args := #[s, x], argTypes := #[t, t] })
    (base : Nat) (e : TypeId) (i : TypeInfo) (z : Value) (size bytes : Nat) (ht : Tryz.prog.underlying t = some (.slice e)) (hi : Tryz.prog.info? e = some i) (hz : i.zero = some z)
    (hsize : i.size = size) (hby : i.bytes = bytes) (hzs : z.cells.size = size) (hsz : 0 < size)
    (v : Value) (n : Nat) (xs : List Value) (hs : a.eval s = v) (hown : w.ownsRow base e size v n xs)
    (xv : Value) (m : Nat) (news : List Value) (hx : a.eval x = xv) (hrow : Row anyB w size m xv news) (hnil : NilA xv) (h1 : ∀ u ∈ news, u.oneCell' = true)
    (h63 : n + m ≤ maxLen) (hbytes : (n + m) * bytes ≤ 140737488355328) (hbase : base ≤ w.heap.size)
    (h : ∀ v' w', w'.ownsRow base e size v' (n + m) (xs ++ news) → w.grownBy w' v.ownBlock → K (a.put o.dst v') w') : o.wp Tryz.prog a w K Q := by
  obtain ⟨xa, xc, rfl, _⟩ := hrow.shape
  cases xa with
  | none =>
    obtain rfl := hnil _ _ rfl
    have hm : m = 0 := by
      rcases Nat.eq_zero_or_pos m with h0 | h0
      · exact h0
      · obtain ⟨_, _, he, _⟩ := hrow.at (by omega); cases he
    subst hm
    have hn : news = [] := List.length_eq_zero_iff.1 (by rw [hrow.1]; omega)
    subst hn
    have hrun := run_append_owned_none (P := Tryz.prog) (w := w) base t o.type e i size ht hi v n xs hown
    unfold Oper.wp
    simp [execOp, ho, resolve, invoke, builtin, hs, hx, hrun, Result.andThen]
    exact h v w (by simpa using hown) (World.grownBy.refl _ _)
  | some ta =>
    refine wp_append_own w s x t ho base e i z size bytes ht hi hz hsize hby hzs hsz v n xs hs hown ta m xc news hx hrow.1 (fun j u hj => ?_) h1 h63 hbytes hbase fun v' w' h2 h3 _ => h v' w' h2 h3
    have hne : m ≠ 0 := by
      intro e
      have : news = [] := List.length_eq_zero_iff.1 (by rw [hrow.1, e]; omega)
      rw [this] at hj; simp at hj
    obtain ⟨b2, off2, he, _, _, hc2⟩ := hrow.at hne
    cases he
    rw [Addr.add_lit]
    exact hc2 j u hj
theorem wpList_append_rowC {w : World} {ops : Array Oper} {rest : List Oper} {o : Oper} {a : Act} {Q : Exit → Act → World → Prop} (hgd : o.guard = none) (s x : Operand) (t : TypeId)
    (ho : o.op = .call { callee := .builtin .append, args := #[s, x], argTypes := #[t, t] })
    (base : Nat) (e : TypeId) (i : TypeInfo) (z : Value) (size bytes : Nat) (ht : Tryz.prog.underlying t = some (.slice e)) (hi : Tryz.prog.info? e = some i) (hz : i.zero = some z)
    (hsize : i.size = size) (hby : i.bytes = bytes) (hzs : z.cells.size = size) (hsz : 0 < size)
    (v : Value) (n : Nat) (xs : List Value) (hs : a.eval s = v) (hown : w.ownsRow base e size v n xs)
    (xv : Value) (m : Nat) (news : List Value) (hx : a.eval x = xv) (hrow : Row anyB w size m xv news) (hnil : NilA xv) (h1 : ∀ u ∈ news, u.oneCell' = true)
    (h63 : n + m ≤ maxLen) (hbytes : (n + m) * bytes ≤ 140737488355328) (hbase : base ≤ w.heap.size)
    (h : ∀ v' w', w'.ownsRow base e size v' (n + m) (xs ++ news) → w.grownBy w' v.ownBlock → wpList Tryz.prog ops Q rest (a.put o.dst v') w') : wpList Tryz.prog ops Q (o :: rest) a w :=
  wpList_plain hgd fun _ hK => wp_append_rowC s x t ho base e i z size bytes ht hi hz hsize hby hzs hsz v n xs hs hown xv m news hx hrow hnil h1 h63 hbytes hbase fun v' w' h2 h3 => hK _ _ (h v' w' h2 h3)
/-- list[p:] and list[:p]. -/
theorem slice25 {α : Type} {c : α → List Value} (hk : ∀ x, (c x).length = 2) (a : Option Addr) (n cap p : Nat) (hp : p ≤ n) {S : Nat → Prop} {w : World} {l : List α} (hl : l.length = n) (h : Row S w 2 n (.slice a n cap) (flatC c l)) (hn : NilA (.slice a n cap)) :
    (∃ a', (∀ W, (Instr.slice 25 (.slice a n cap) (some (.int .i64 (p : Int))) none none).run Tryz.prog W = .ok (.slice a' (n - p) (cap - p)) W) ∧ Row S w 2 (l.drop p).length (.slice a' (n - p) (cap - p)) (flatC c (l.drop p)) ∧ NilA (.slice a' (n - p) (cap - p))) ∧
    (∀ W, (Instr.slice 25 (.slice a n cap) none (some (.int .i64 (p : Int))) none).run Tryz.prog W = .ok (.slice a p cap) W) ∧ Row S w 2 (l.take p).length (.slice a p cap) (flatC c (l.take p)) ∧ NilA (.slice a p cap) := by
  obtain ⟨_, _, e0, hc⟩ := h.shape
  cases e0
  have hdl : (l.drop p).length = n - p := by rw [List.length_drop, hl]
  have htl : (l.take p).length = p := by rw [List.length_take, hl]; omega
  rw [hdl, htl, flatC_drop hk, flatC_take hk]
  rcases a with _ | a
  · obtain rfl := hn _ _ rfl
    obtain rfl : n = 0 := by omega
    obtain rfl : p = 0 := by omega
    have hl0 : l = [] := List.length_eq_zero_iff.1 hl
    subst hl0
    exact ⟨⟨none, fun W => by simp [go_sem, sliced], Row.nil _ _ _ _ _, fun n d e => by cases e; rfl⟩, fun W => by simp [go_sem, sliced], Row.nil _ _ _ _ _, fun n d e => by cases e; rfl⟩
  · by_cases hn0 : n = 0
    · subst hn0
      obtain rfl : p = 0 := by omega
      have hl0 : l = [] := List.length_eq_zero_iff.1 hl
      subst hl0
      by_cases e : cap = 0
      · subst e
        exact ⟨⟨some a, fun W => by simp [go_sem, sliced], Row.nil _ _ _ _ _, fun n d e => by cases e⟩, fun W => by simp [go_sem, sliced], Row.nil _ _ _ _ _, fun n d e => by cases e⟩
      · exact ⟨⟨some (a.add 0), fun W => by simp [go_sem, sliced, e], Row.nil _ _ _ _ _, fun n d e => by cases e⟩, fun W => by simp [go_sem, sliced], Row.nil _ _ _ _ _, fun n d e => by cases e⟩
    · obtain ⟨b, off, hab, _⟩ := h.at hn0
      cases hab
      refine ⟨?_, fun W => by simp [go_sem, sliced]; omega, h.take hp, fun n d e => by cases e⟩
      by_cases e : cap = p
      · obtain rfl : n = p := by omega
        subst e
        refine ⟨some ⟨b, off, none⟩, fun W => by simp [go_sem, sliced], ?_, fun n d e => by cases e⟩
        rw [List.drop_of_length_le (by rw [flatC_len hk, hl]; exact Nat.le_refl _), Nat.sub_self]
        exact Row.nil _ _ _ _ _
      · refine ⟨some ⟨b, off + p * 2, none⟩, fun W => ?_, h.drop hp, fun n d e => by cases e⟩
        simp [go_sem, sliced]
        rw [if_pos (by omega), if_neg e]
/-- list[p:] and list[:p]. -/
theorem slice46 {α : Type} {c : α → List Value} (hk : ∀ x, (c x).length = 4) (a : Option Addr) (n cap p : Nat) (hp : p ≤ n) {S : Nat → Prop} {w : World} {l : List α} (hl : l.length = n) (h : Row S w 4 n (.slice a n cap) (flatC c l)) (hn : NilA (.slice a n cap)) :
    (∃ a', (∀ W, (Instr.slice 46 (.slice a n cap) (some (.int .i64 (p : Int))) none none).run Tryz.prog W = .ok (.slice a' (n - p) (cap - p)) W) ∧ Row S w 4 (l.drop p).length (.slice a' (n - p) (cap - p)) (flatC c (l.drop p)) ∧ NilA (.slice a' (n - p) (cap - p))) ∧
    (∀ W, (Instr.slice 46 (.slice a n cap) none (some (.int .i64 (p : Int))) none).run Tryz.prog W = .ok (.slice a p cap) W) ∧ Row S w 4 (l.take p).length (.slice a p cap) (flatC c (l.take p)) ∧ NilA (.slice a p cap) := by
  obtain ⟨_, _, e0, hc⟩ := h.shape
  cases e0
  have hdl : (l.drop p).length = n - p := by rw [List.length_drop, hl]
  have htl : (l.take p).length = p := by rw [List.length_take, hl]; omega
  rw [hdl, htl, flatC_drop hk, flatC_take hk]
  rcases a with _ | a
  · obtain rfl := hn _ _ rfl
    obtain rfl : n = 0 := by omega
    obtain rfl : p = 0 := by omega
    have hl0 : l = [] := List.length_eq_zero_iff.1 hl
    subst hl0
    exact ⟨⟨none, fun W => by simp [go_sem, sliced], Row.nil _ _ _ _ _, fun n d e => by cases e; rfl⟩, fun W => by simp [go_sem, sliced], Row.nil _ _ _ _ _, fun n d e => by cases e; rfl⟩
  · by_cases hn0 : n = 0
    · subst hn0
      obtain rfl : p = 0 := by omega
      have hl0 : l = [] := List.length_eq_zero_iff.1 hl
      subst hl0
      by_cases e : cap = 0
      · subst e
        exact ⟨⟨some a, fun W => by simp [go_sem, sliced], Row.nil _ _ _ _ _, fun n d e => by cases e⟩, fun W => by simp [go_sem, sliced], Row.nil _ _ _ _ _, fun n d e => by cases e⟩
      · exact ⟨⟨some (a.add 0), fun W => by simp [go_sem, sliced, e], Row.nil _ _ _ _ _, fun n d e => by cases e⟩, fun W => by simp [go_sem, sliced], Row.nil _ _ _ _ _, fun n d e => by cases e⟩
    · obtain ⟨b, off, hab, _⟩ := h.at hn0
      cases hab
      refine ⟨?_, fun W => by simp [go_sem, sliced]; omega, h.take hp, fun n d e => by cases e⟩
      by_cases e : cap = p
      · obtain rfl : n = p := by omega
        subst e
        refine ⟨some ⟨b, off, none⟩, fun W => by simp [go_sem, sliced], ?_, fun n d e => by cases e⟩
        rw [List.drop_of_length_le (by rw [flatC_len hk, hl]; exact Nat.le_refl _), Nat.sub_self]
        exact Row.nil _ _ _ _ _
      · refine ⟨some ⟨b, off + p * 4, none⟩, fun W => ?_, h.drop hp, fun n d e => by cases e⟩
        simp [go_sem, sliced]
        rw [if_pos (by omega), if_neg e]
/-- list[p:] and list[:p]. -/
theorem slice37 {α : Type} {c : α → List Value} (hk : ∀ x, (c x).length = 1) (a : Option Addr) (n cap p : Nat) (hp : p ≤ n) {S : Nat → Prop} {w : World} {l : List α} (hl : l.length = n) (h : Row S w 1 n (.slice a n cap) (flatC c l)) (hn : NilA (.slice a n cap)) :
    (∃ a', (∀ W, (Instr.slice 37 (.slice a n cap) (some (.int .i64 (p : Int))) none none).run Tryz.prog W = .ok (.slice a' (n - p) (cap - p)) W) ∧ Row S w 1 (l.drop p).length (.slice a' (n - p) (cap - p)) (flatC c (l.drop p)) ∧ NilA (.slice a' (n - p) (cap - p))) ∧
    (∀ W, (Instr.slice 37 (.slice a n cap) none (some (.int .i64 (p : Int))) none).run Tryz.prog W = .ok (.slice a p cap) W) ∧ Row S w 1 (l.take p).length (.slice a p cap) (flatC c (l.take p)) ∧ NilA (.slice a p cap) := by
  obtain ⟨_, _, e0, hc⟩ := h.shape
  cases e0
  have hdl : (l.drop p).length = n - p := by rw [List.length_drop, hl]
  have htl : (l.take p).length = p := by rw [List.length_take, hl]; omega
  rw [hdl, htl, flatC_drop hk, flatC_take hk]
  rcases a with _ | a
  · obtain rfl := hn _ _ rfl
    obtain rfl : n = 0 := by omega
    obtain rfl : p = 0 := by omega
    have hl0 : l = [] := List.length_eq_zero_iff.1 hl
    subst hl0
    exact ⟨⟨none, fun W => by simp [go_sem, sliced], Row.nil _ _ _ _ _, fun n d e => by cases e; rfl⟩, fun W => by simp [go_sem, sliced], Row.nil _ _ _ _ _, fun n d e => by cases e; rfl⟩
  · by_cases hn0 : n = 0
    · subst hn0
      obtain rfl : p = 0 := by omega
      have hl0 : l = [] := List.length_eq_zero_iff.1 hl
      subst hl0
      by_cases e : cap = 0
      · subst e
        exact ⟨⟨some a, fun W => by simp [go_sem, sliced], Row.nil _ _ _ _ _, fun n d e => by cases e⟩, fun W => by simp [go_sem, sliced], Row.nil _ _ _ _ _, fun n d e => by cases e⟩
      · exact ⟨⟨some (a.add 0), fun W => by simp [go_sem, sliced, e], Row.nil _ _ _ _ _, fun n d e => by cases e⟩, fun W => by simp [go_sem, sliced], Row.nil _ _ _ _ _, fun n d e => by cases e⟩
    · obtain ⟨b, off, hab, _⟩ := h.at hn0
      cases hab
      refine ⟨?_, fun W => by simp [go_sem, sliced]; omega, h.take hp, fun n d e => by cases e⟩
      by_cases e : cap = p
      · obtain rfl : n = p := by omega
        subst e
        refine ⟨some ⟨b, off, none⟩, fun W => by simp [go_sem, sliced], ?_, fun n d e => by cases e⟩
        rw [List.drop_of_length_le (by rw [flatC_len hk, hl]; exact Nat.le_refl _), Nat.sub_self]
        exact Row.nil _ _ _ _ _
      · refine ⟨some ⟨b, off + p * 1, none⟩, fun W => ?_, h.drop hp, fun n d e => by cases e⟩
        simp [go_sem, sliced]
        rw [if_pos (by omega), if_neg e]
theorem step_append_rowC {w : World} {ops : Array Oper} {o : Oper} {a : Act} {K : Act → World → Prop} {Q : Exit → Act → World → Prop} {E : Prop} (hgd : o.guard = none) (s x : Operand) (t : TypeId)
    (ho : o.op = .call { callee := .builtin .append, args := #[s, x], argTypes := #[t, t] })
    (base : Nat) (e : TypeId) (i : TypeInfo) (z : Value) (size bytes : Nat) (ht : Tryz.prog.underlying t = some (.slice e)) (hi : Tryz.prog.info? e = some i) (hz : i.zero = some z)
    (hsize : i.size = size) (hby : i.bytes = bytes) (hzs : z.cells.size = size) (hsz : 0 < size)
    (v : Value) (n : Nat) (xs : List Value) (hs : a.eval s = v) (hown : w.ownsRow base e size v n xs)
    (xv : Value) (m : Nat) (news : List Value) (hx : a.eval x = xv) (hrow : Row anyB w size m xv news) (hnil : NilA xv) (h1 : ∀ u ∈ news, u.oneCell' = true)
    (h63 : n + m ≤ maxLen) (hbytes : (n + m) * bytes ≤ 140737488355328) (hbase : base ≤ w.heap.size)
    (h : ∀ v' w', w'.ownsRow base e size v' (n + m) (xs ++ news) → w.grownBy w' v.ownBlock → K (a.put o.dst v') w') : if Region.wanted o (yielded ops a.tmps) = true then Oper.wp Tryz.prog o a w K Q else E := by
  have hw : Region.wanted o (yielded ops a.tmps) = true := by simp [Region.wanted, hgd]
  rw [if_pos hw]
  exact wp_append_rowC s x t ho base e i z size bytes ht hi hz hsize hby hzs hsz v n xs hs hown xv m news hx hrow hnil h1 h63 hbytes hbase h
/-- A row laid by the call itself. -/
theorem owns_laid (w : World) (arr : Array Value) (E B n size : Nat) (hB : B ≤ w.heap.size) (hn : arr.size = n * size) (hm : n ≤ maxLen) : (w.alloc (.cells arr E)).ownsRow B E size (.slice (some ⟨w.heap.size, 0, none⟩) n n) n arr.toList := by
  refine ⟨by simpa using hn, Or.inr ⟨w.heap.size, n, arr, rfl, hB, alloc_last w _, Nat.le_refl _, hm, hn, ?_⟩⟩
  rw [List.take_of_length_le (by simp [hn])]
theorem qC_one (q : CV) (h1 : q.1.oneCell' = true) (h2 : q.2.1.oneCell' = true) : ∀ u ∈ qC q, u.oneCell' = true := by
  intro u hu
  simp only [qC, List.mem_cons, List.not_mem_nil, or_false] at hu
  rcases hu with rfl | rfl
  · exact h1
  · exact h2
theorem qC_oneL {L : List CV} (h : ∀ q ∈ L, q.1.oneCell' = true ∧ q.2.1.oneCell' = true) : ∀ u ∈ flatC qC L, u.oneCell' = true := by
  intro u hu
  unfold flatC at hu
  obtain ⟨x, hx, hu⟩ := List.mem_flatMap.1 hu
  exact qC_one x (h x hx).1 (h x hx).2 u hu
end Go.Proofs.YtemeppfikpafbaaGreat

/- The lists of causes that the law builds: own rows, and elements in blocks other than the rows'. -/
namespace Go.Proofs.YtemeppfikpafbaaGreat
open Go.RowKit
theorem info25Q : (Tryz.prog.info? 25).map (fun i => (i.zero, i.size, i.bytes)) = some (some (.slice none 0 0), 1, 24) := by kernel_rfl
structure AllQ (N : Nat) (w : World) (v : Value) (l : List CV) : Prop where
  own : w.ownsRow N 34 2 v l.length (flatC qC l)
  ent : ∀ q ∈ l, CauS (fun b => v.ownBlock ≠ some b ∧ N ≤ b) w q.2.2 q.1 q.2.1
theorem AllQ.nil (w : World) : AllQ w.heap.size (w.alloc (.cells #[] 34)) (.slice (some ⟨w.heap.size, 0, none⟩) 0 0) [] := ⟨ownsRow_empty w 34 2, fun q h => by simp at h⟩
theorem AllQ.more {N : Nat} {w w' : World} {v : Value} {l : List CV} (h : AllQ N w v l) (hm : More w w') : AllQ N w' v l :=
  ⟨owns_keep h.own (fun z hz => hm.block (h.own.lt z hz).2), fun q hq => CauS.mono (h.ent q hq) (fun _ hb _ => hb) (fun _b _ hl => hm.block hl)⟩
theorem AllQ.push {N : Nat} {w w' : World} {v v' : Value} {l : List CV} (h : AllQ N w v l) {q : CV} (hq : CauS (fun b => v.ownBlock ≠ some b ∧ N ≤ b) w q.2.2 q.1 q.2.1)
    (hown : w'.ownsRow N 34 2 v' (l.length + 1) (flatC qC l ++ qC q)) (hg : w.grownBy w' v.ownBlock) (hv : ∀ z, v'.ownBlock = some z → v.ownBlock = some z ∨ w.heap.size ≤ z) : AllQ N w' v' (l ++ [q]) := by
  have key : ∀ x : CV, CauS (fun b => v.ownBlock ≠ some b ∧ N ≤ b) w x.2.2 x.1 x.2.1 → CauS (fun b => v'.ownBlock ≠ some b ∧ N ≤ b) w' x.2.2 x.1 x.2.1 := fun x hx => CauS.mono hx (fun b hb hl => ⟨fun e => by
    rcases hv b e with h1 | h1
    · exact hb.1 h1
    · omega, hb.2⟩) (fun b hb hl => hg.block b hl (fun e => hb.1 e.symm))
  refine ⟨by rw [List.length_append, List.length_singleton, flatC_push]; exact hown, fun x hx => ?_⟩
  rcases List.mem_append.1 hx with h1 | h1
  · exact key x (h.ent x h1)
  · rw [List.mem_singleton] at h1; subst h1; exact key x hq
/-- A list in blocks of S, with its causes. -/
structure LsE (S : Nat → Prop) (w : World) (p : LV) : Prop where
  row : Row S w 2 p.2.length p.1 (flatC qC p.2)
  ent : ∀ q ∈ p.2, CauS S w q.2.2 q.1 q.2.1
theorem LsE.mono {S S' : Nat → Prop} {w w' : World} {p : LV} (h : LsE S w p) (hS : ∀ b, S b → b < w.heap.size → S' b) (hw : ∀ b, S b → b < w.heap.size → w'.heap[b]? = w.heap[b]?) : LsE S' w' p :=
  ⟨(h.row.lt (by omega)).mono (fun b hb => hS b hb.1 hb.2) (fun b off x hb hc => by
    rw [← hc]; exact World.cell?_of_block (w := w) (a := ⟨b, off, none⟩) (hw b hb.1 hb.2)), fun q hq => CauS.mono (h.ent q hq) hS hw⟩
structure AllT (N : Nat) (w : World) (v : Value) (ls : List LV) : Prop where
  own : w.ownsRow N 25 1 v ls.length (flatC lC ls)
  ent : ∀ p ∈ ls, LsE (fun b => v.ownBlock ≠ some b) w p
theorem AllT.nil (N : Nat) (w : World) : AllT N w (.slice none 0 0) [] := ⟨World.ownsRow_nil _ _ _ _, fun p h => by simp at h⟩
theorem AllT.more {N : Nat} {w w' : World} {v : Value} {ls : List LV} (h : AllT N w v ls) (hm : More w w') : AllT N w' v ls :=
  ⟨owns_keep h.own (fun z hz => hm.block (h.own.lt z hz).2), fun p hp => (h.ent p hp).mono (fun _ hb _ => hb) (fun _b _ hl => hm.block hl)⟩
theorem AllT.below {N M : Nat} {w w' : World} {v : Value} {ls : List LV} (h : AllT N w v ls) (hM : M = w.heap.size) (hm : Below M w w') : AllT N w' v ls := by subst hM; exact h.more (more_of hm)
theorem AllT.push {N : Nat} {w w' : World} {v v' : Value} {ls : List LV} (h : AllT N w v ls) {p : LV} (hp : LsE (fun b => v.ownBlock ≠ some b) w p)
    (hown : w'.ownsRow N 25 1 v' (ls.length + 1) (flatC lC ls ++ lC p)) (hg : w.grownBy w' v.ownBlock) (hv : ∀ z, v'.ownBlock = some z → v.ownBlock = some z ∨ w.heap.size ≤ z) : AllT N w' v' (ls ++ [p]) := by
  have key : ∀ q : LV, LsE (fun b => v.ownBlock ≠ some b) w q → LsE (fun b => v'.ownBlock ≠ some b) w' q := fun q hq => hq.mono (fun b hb hl e => by
    rcases hv b e with h1 | h1
    · exact hb h1
    · omega) (fun b hb hl => hg.block b hl (fun e => hb e.symm))
  refine ⟨by rw [List.length_append, List.length_singleton, flatC_push]; exact hown, fun x hx => ?_⟩
  rcases List.mem_append.1 hx with h1 | h1
  · exact key x (h.ent x h1)
  · rw [List.mem_singleton] at h1; subst h1; exact key x hp
theorem AllT.lists {N : Nat} {w : World} {v : Value} {ls : List LV} (h : AllT N w v ls) (h6 : ls.length ≤ 6) (h66 : ∀ p ∈ ls, p.2.length ≤ 6) : ListsAt w ls v :=
  ⟨(Row.of_owns h.own).mono (fun _ _ => trivial) (fun _ _ _ _ h => h), fun p hp => ((h.ent p hp).row).mono (fun _ _ => trivial) (fun _ _ _ _ h => h), fun p hp q hq => ((h.ent p hp).ent q hq).at, by omega, fun p hp => by have := h66 p hp; omega⟩
/-- A row of lists in another order. -/
theorem ListsAt.row2 {w : World} {ls ls2 : List LV} {v v2 : Value} (h : ListsAt w ls v) (hr : Row anyB w 1 ls2.length v2 (flatC lC ls2)) (hs : ∀ p ∈ ls2, p ∈ ls) (hl : ls2.length ≤ 1000) : ListsAt w ls2 v2 :=
  ⟨hr, fun p hp => h.inner p (hs p hp), fun p hp => h.each p (hs p hp), hl, fun p hp => h.lens p (hs p hp)⟩
theorem told_none {cb : Bool} {o : Nat} : ToldR [] o cb [] := ⟨List.Pairwise.nil, fun t h => by simp at h, fun t h => by simp at h, fun q h => by simp at h⟩
theorem row_holdA {α : Type} [Inhabited α] {c : α → List Value} {k : Nat} (hk : ∀ x, (c x).length = k) (hk0 : 0 < k) {w : World} {B cap : Nat} {R : List α} (hc : R.length ≤ cap) (hH : HoldC c k w B 0 R.toArray) : Row anyB w k R.length (.slice (some ⟨B, 0, none⟩) R.length cap) (flatC c R) := by
  refine ⟨flatC_len hk R, _, _, rfl, hc, fun _ => ⟨B, 0, rfl, trivial, fun j u hj => ?_⟩⟩
  have hjl : j < R.length * k := by
    have := (List.getElem?_eq_some_iff.1 hj).1
    rw [flatC_len hk] at this
    exact this
  have hi : j / k < R.length := Nat.div_lt_of_lt_mul (by rw [Nat.mul_comm]; exact hjl)
  have hr : j % k < (c R[j / k]).length := by rw [hk]; exact Nat.mod_lt _ hk0
  have h1 := flatC_get hk R (j / k) hi (j % k) _ (List.getElem?_eq_getElem hr)
  have e : j / k * k + j % k = j := by rw [Nat.mul_comm]; exact Nat.div_add_mod j k
  rw [e, hj] at h1
  have h2 := (hH (j / k) (by simpa using hi) (j % k) u (by
    rw [getElem!_pos R.toArray (j / k) (by simpa using hi), List.getElem_toArray, List.getElem?_eq_getElem hr, ← h1])).1
  rw [Nat.zero_add, e] at h2
  rw [Nat.zero_add]
  exact h2
theorem fnd_zero : ∀ (ls : List LV) (i : Int), fndL ls i = [] → ∀ p ∈ ls, p.2 = []
  | [], _, _, p, hp => by simp at hp
  | q :: r, i, h, p, hp => by
    unfold fndL at h
    obtain ⟨h1, h2⟩ := List.append_eq_nil_iff.1 h
    rcases List.mem_cons.1 hp with e | e
    · subst e; exact List.map_eq_nil_iff.1 h1
    · exact fnd_zero r (i + 1) h2 p e
/-- What Combine returns, at any lists: a row of told causes. -/
theorem combine_all (ls : List LV) (v : Value) (cb : Bool) (w : World) (h : ListsAt w ls v) (ht : (fndL ls 0).length ≤ 40) :
    Calls Tryz.prog 16 #[v, .bool cb] w fun e w' => (∃ (R : List Tld) (tv : Value), e = .returned tv ∧ Row anyB w' 5 R.length tv (flatC tC R) ∧ (∀ t ∈ R, TldAt w' t) ∧ ToldR (keyL ls) ls.length cb R) ∧ Below w.heap.size w w' := by
  rcases Nat.eq_zero_or_pos (fndL ls 0).length with h0 | h0
  · have hn := List.length_eq_zero_iff.1 h0
    refine (combine_zero ls v cb w h (fnd_zero ls 0 hn)).mono ?_
    rintro e w' ⟨rfl, hb⟩
    exact ⟨⟨[], _, rfl, Row.nil _ _ _ _ _, fun t h => by simp at h, by unfold keyL; rw [hn]; exact told_none⟩, hb⟩
  · refine (combine_any ls v cb w h ht h0).mono ?_
    rintro e w' ⟨⟨R, B, cap, rfl, hc, hH, hT, hR⟩, hb⟩
    exact ⟨⟨R, _, rfl, row_holdA tC_len (by omega) hc hH, hT, hR⟩, hb⟩
end Go.Proofs.YtemeppfikpafbaaGreat

/- The causes of lists in order, each once: plain. -/
namespace Go.Proofs.YtemeppfikpafbaaGreat
open Go.RowKit
theorem infoC : (Tryz.prog.info? 34).map (fun i => (i.zero, i.size, i.bytes)) = some (some (.agg #[.slice none 0 0, .slice none 0 0]), 2, 48) := by kernel_rfl
def kV (q : CV) : KC := keyC q.2.2
/-- The causes so far, in order, each once. -/
structure RkA (P A : List CV) : Prop where
  asc : A.Pairwise fun a b => cmpP (kV a) (kV b) < 0
  sub : ∀ a ∈ A, a ∈ P
  all : ∀ q ∈ P, ∃ a ∈ A, kV a = kV q
  len : A.length ≤ P.length
theorem RkA.nil : RkA [] [] := ⟨List.Pairwise.nil, fun _ h => h, fun q h => by simp at h, Nat.le_refl _⟩
theorem RkA.same {P A : List CV} {q : CV} (h : RkA P A) {i : Nat} (hi : i < A.length) (he : kV A[i] = kV q) : RkA (P ++ [q]) A :=
  ⟨h.asc, fun a ha => List.mem_append_left _ (h.sub a ha), fun x hx => by
    rcases List.mem_append.1 hx with h1 | h1
    · exact h.all x h1
    · rw [List.mem_singleton] at h1; subst h1; exact ⟨A[i], List.getElem_mem hi, he⟩, by have := h.len; rw [List.length_append]; omega⟩
theorem RkA.ins {P A : List CV} {q : CV} (h : RkA P A) {i : Nat} (hi : i ≤ A.length) (hl : ∀ j (hj : j < A.length), j < i → cmpP (kV A[j]) (kV q) < 0) (hr : ∀ (hj : i < A.length), cmpP (kV q) (kV A[i]) < 0) : RkA (P ++ [q]) (A.take i ++ q :: A.drop i) := by
  have hp := List.pairwise_iff_getElem.1 h.asc
  refine ⟨List.pairwise_append.2 ⟨h.asc.sublist (List.take_sublist _ _), List.pairwise_cons.2 ⟨fun b hb => ?_, h.asc.sublist (List.drop_sublist _ _)⟩, fun a ha b hb => ?_⟩, fun a ha => ?_, fun x hx => ?_, ?_⟩
  · obtain ⟨n, hn, rfl⟩ := List.mem_iff_getElem.1 hb
    have hn' := hn
    rw [List.length_drop] at hn'
    rw [List.getElem_drop]
    have h1 := hr (by omega)
    by_cases e : n = 0
    · subst e; exact h1
    · exact cmpP_to.trans _ _ _ h1 (hp i (i + n) (by omega) (by omega) (by omega))
  · obtain ⟨n, hn, rfl⟩ := List.mem_iff_getElem.1 ha
    have hn' := hn
    rw [List.length_take] at hn'
    rw [List.getElem_take]
    have h1 := hl n (by omega) (by omega)
    rcases List.mem_cons.1 hb with rfl | hb
    · exact h1
    · obtain ⟨m, hm, rfl⟩ := List.mem_iff_getElem.1 hb
      have hm' := hm
      rw [List.length_drop] at hm'
      rw [List.getElem_drop]
      exact hp n (i + m) (by omega) (by omega) (by omega)
  · rcases List.mem_append.1 ha with h1 | h1
    · exact List.mem_append_left _ (h.sub a (List.mem_of_mem_take h1))
    · rcases List.mem_cons.1 h1 with rfl | h1
      · simp
      · exact List.mem_append_left _ (h.sub a (List.mem_of_mem_drop h1))
  · rcases List.mem_append.1 hx with h1 | h1
    · obtain ⟨a, ha, e⟩ := h.all x h1
      rw [← List.take_append_drop i A] at ha
      rcases List.mem_append.1 ha with h2 | h2
      · exact ⟨a, List.mem_append_left _ h2, e⟩
      · exact ⟨a, List.mem_append_right _ (List.mem_cons_of_mem _ h2), e⟩
    · rw [List.mem_singleton] at h1; subst h1
      exact ⟨x, by simp, rfl⟩
  · have := h.len
    rw [List.length_append, List.length_append, List.length_cons, List.length_take, List.length_drop, List.length_singleton]
    omega
theorem lessV {a b : Cau} : decide (cmpCau a b < 0) = decide (cmpP (keyC a) (keyC b) < 0) := rfl
theorem eqV {a b : Cau} : decide (cmpCau a b = 0) = decide (keyC a = keyC b) := decide_eq_decide.2 (cmpCau_zero a b)
/-- The places of a cause's equals. -/
def posV (A : List CV) (k : KC) (t : Nat) : List Nat := (List.range t).filter fun i => decide (kV A[i]! = k)
theorem posV_push (A : List CV) (k : KC) (t : Nat) (h : t < A.length) : posV A k (t + 1) = posV A k t ++ if decide (kV A[t] = k) then [t] else [] := by
  unfold posV
  rw [List.range_succ, List.filter_append]
  congr 1
  rw [List.filter_cons, getElem!_pos A t h]
  cases decide (kV A[t] = k) <;> rfl
theorem posV_len (A : List CV) (k : KC) (t : Nat) : (posV A k t).length ≤ t := by
  have := List.length_filter_le (fun i => decide (kV A[i]! = k)) (List.range t)
  rw [List.length_range] at this
  exact this
def posL (A : List CV) (P : List CV) : List Nat := P.flatMap fun q => posV A (kV q) A.length
theorem posL_push (A P : List CV) (q : CV) : posL A (P ++ [q]) = posL A P ++ posV A (kV q) A.length := by
  unfold posL; rw [List.flatMap_append]; simp
theorem mem_posL {A P : List CV} {x : Nat} : x ∈ posL A P ↔ ∃ (h : x < A.length), ∃ q ∈ P, kV A[x] = kV q := by
  unfold posL posV
  rw [List.mem_flatMap]
  constructor
  · rintro ⟨q, hq, hx⟩
    obtain ⟨h1, h2⟩ := List.mem_filter.1 hx
    have h3 := List.mem_range.1 h1
    rw [getElem!_pos A x h3] at h2
    exact ⟨h3, q, hq, of_decide_eq_true h2⟩
  · rintro ⟨h, q, hq, he⟩
    exact ⟨q, hq, List.mem_filter.2 ⟨List.mem_range.2 h, by rw [getElem!_pos A x h]; exact decide_eq_true he⟩⟩
theorem owns_ne {w : World} {B : Nat} {e t : TypeId} {sz n X : Nat} {v : Value} {xs : List Value} {arr : Array Value} (h : w.ownsRow B e sz v n xs) (hx : w.heap[X]? = some (.cells arr t)) (hne : e ≠ t) : v.ownBlock ≠ some X := by
  obtain ⟨_, ⟨rfl, _⟩ | ⟨g, cap, cur, rfl, _, hg, _⟩⟩ := h
  · intro h; cases h
  · intro h
    have e1 : g = X := Option.some.inj h
    subst e1
    rw [hg] at hx
    cases hx
    exact hne rfl
/-- A list of numbers, and where it lies. -/
abbrev NV := Value × List Nat
def lN (p : NV) : List Value := [p.1]
theorem lN_len (p : NV) : (lN p).length = 1 := rfl
def nC (n : Nat) : List Value := [.int .i64 n]
theorem nC_len (n : Nat) : (nC n).length = 1 := rfl
theorem nC_one (l : List Nat) : ∀ u ∈ flatC nC l, u.oneCell' = true := by
  intro u hu
  unfold flatC at hu
  obtain ⟨x, _, hu⟩ := List.mem_flatMap.1 hu
  simp only [nC, List.mem_cons, List.not_mem_nil, or_false] at hu
  subst hu; rfl
theorem infoI : (Tryz.prog.info? 3).map (fun i => (i.zero, i.size, i.bytes)) = some (some (.int .i64 0), 1, 8) := by kernel_rfl
theorem infoL : (Tryz.prog.info? 28).map (fun i => (i.zero, i.size, i.bytes)) = some (some (.slice none 0 0), 1, 24) := by kernel_rfl
structure AllN (N : Nat) (w : World) (v : Value) (I : List NV) : Prop where
  own : w.ownsRow N 28 1 v I.length (flatC lN I)
  ent : ∀ p ∈ I, Row (fun b => v.ownBlock ≠ some b) w 1 p.2.length p.1 (flatC nC p.2)
theorem AllN.nil (N : Nat) (w : World) : AllN N w (.slice none 0 0) [] := ⟨World.ownsRow_nil _ _ _ _, fun f h => by simp at h⟩
theorem AllN.more {N : Nat} {w w' : World} {v : Value} {I : List NV} (h : AllN N w v I) (hm : More w w') : AllN N w' v I :=
  ⟨owns_keep h.own (fun z hz => hm.block (h.own.lt z hz).2), fun p hp => ((h.ent p hp).lt (by omega)).mono (fun b hb => hb.1) (fun b off x hb hc => by
    rw [← hc]; exact World.cell?_of_block (w := w) (a := ⟨b, off, none⟩) (hm.block hb.2))⟩
theorem AllN.below {N M : Nat} {w w' : World} {v : Value} {I : List NV} (h : AllN N w v I) (hM : M = w.heap.size) (hm : Below M w w') : AllN N w' v I := by subst hM; exact h.more (more_of hm)
theorem AllN.push {N : Nat} {w w' : World} {v v' : Value} {I : List NV} (h : AllN N w v I) {p : NV} (hp : Row (fun b => v.ownBlock ≠ some b) w 1 p.2.length p.1 (flatC nC p.2))
    (hown : w'.ownsRow N 28 1 v' (I.length + 1) (flatC lN I ++ lN p)) (hg : w.grownBy w' v.ownBlock) (hv : ∀ z, v'.ownBlock = some z → v.ownBlock = some z ∨ w.heap.size ≤ z) : AllN N w' v' (I ++ [p]) := by
  have key : ∀ q : NV, Row (fun b => v.ownBlock ≠ some b) w 1 q.2.length q.1 (flatC nC q.2) → Row (fun b => v'.ownBlock ≠ some b) w' 1 q.2.length q.1 (flatC nC q.2) := fun q hq => (hq.lt (by omega)).mono (fun b hb e => by
      rcases hv b e with h1 | h1
      · exact hb.1 h1
      · have := hb.2; omega) (fun b off x hb hc => by
      rw [← hc]; exact World.cell?_of_block (w := w) (a := ⟨b, off, none⟩) (hg.block b hb.2 (fun e => hb.1 e.symm)))
  refine ⟨by rw [List.length_append, List.length_singleton, flatC_push]; exact hown, fun x hx => ?_⟩
  rcases List.mem_append.1 hx with h1 | h1
  · exact key x (h.ent x h1)
  · rw [List.mem_singleton] at h1; subst h1; exact key x hp
end Go.Proofs.YtemeppfikpafbaaGreat

