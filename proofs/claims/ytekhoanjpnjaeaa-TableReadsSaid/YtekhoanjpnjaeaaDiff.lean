/- table.Diff (41). -/
import Derived.Test.YtekhoanjpnjaeaaPut
namespace Go.Proofs.Ytekhoanjpnjaeaa
open Go.RowKit

def keyV (O : List Int) : List Value := O.map fun k => .int .i64 k
theorem keyV_push (O : List Int) (k : Int) : keyV (O ++ [k]) = keyV O ++ [.int .i64 k] := by simp [keyV]
theorem keyV_length (O : List Int) : (keyV O).length = O.length := by simp [keyV]
def lenV : Value → Nat
  | .slice _ n _ => n
  | _ => 0
/-- A slice of entries as it stands between two rounds. -/
def TabV (S : Nat → Prop) (w : World) (l : List (Int × Int)) (v : Value) : Prop := ∃ a cap, v = .slice a l.length cap ∧ Row S w 2 l.length v (flat2 l) ∧ PlainA a cap
theorem TabV.below {S : Nat → Prop} {w w' : World} {l : List (Int × Int)} {v : Value} (hB : Below w.heap.size w w') (h : TabV S w l v) : TabV S w' l v := by
  obtain ⟨a, cap, rfl, hr, hp⟩ := h
  exact ⟨a, cap, rfl, hr.below hB, hp⟩
theorem TabV.mono {S S' : Nat → Prop} {w : World} {l : List (Int × Int)} {v : Value} (hS : ∀ b, S b → S' b) (h : TabV S w l v) : TabV S' w l v := by
  obtain ⟨a, cap, rfl, hr, hp⟩ := h
  exact ⟨a, cap, rfl, hr.mono hS (fun _ _ _ _ h => h), hp⟩
/-- What a round needs of a slice that is not empty. -/
theorem TabV.cons {S : Nat → Prop} {w : World} {x : Int × Int} {r : List (Int × Int)} {v : Value} (h : TabV S w (x :: r) v) : ∃ b off cap a' n, v = .slice (some ⟨b, off, none⟩) n cap ∧ Hid (n = r.length + 1) ∧ 0 < n ∧ ((n : Int) == 0) = false ∧ n ≤ cap ∧
    w.cell? ⟨b, off, none⟩ = some (.int .i64 x.1) ∧ w.cell? ⟨b, off + 1, none⟩ = some (.int .i64 x.2) ∧
    (∀ w, (Instr.slice 52 (.slice (some ⟨b, off, none⟩) n cap) (some (.int .i64 1)) none none).run Try.prog w = .ok (.slice a' r.length (cap - 1)) w) ∧ TabV S w r (.slice a' r.length (cap - 1)) := by
  obtain ⟨a, cap, rfl, hr, hp⟩ := h
  have hcap : r.length + 1 ≤ cap := by obtain ⟨_, _, _, he, hc, _⟩ := hr; cases he; exact hc
  obtain ⟨b, off, rfl, _, _, hc⟩ := hr.at (by simp)
  obtain ⟨a', h1, h2, h3⟩ := slice_from (some ⟨b, off, none⟩) (r.length + 1) cap 1 (by omega) hcap hp
  refine ⟨b, off, cap, a', r.length + 1, rfl, Lib.hid rfl, by omega, by simp; omega, hcap, by simpa using hc 0 _ rfl, hc 1 _ rfl, h2, a', cap - 1, rfl, ?_, h1⟩
  exact h3 S w (x :: r) rfl hr
theorem TabV.nil' {S : Nat → Prop} {w : World} {v : Value} (h : TabV S w [] v) : ∃ a cap, v = .slice a 0 cap := by
  obtain ⟨a, cap, rfl, _⟩ := h; exact ⟨a, cap, rfl⟩

theorem cat_step {O M T T' : List Int} {k : Int} (h : O ++ T = M) (e : T = k :: T') : (O ++ [k]) ++ T' = M := by rw [← h, e]; simp
theorem diff_app {w wr w2 : World} {O : List Int} {k : Int} {oa : Option Addr} {ocap g cap n : Nat} {ob : Obj} (hM : More w wr) (hO : wr.ownsRow w.heap.size 2 1 (.slice oa O.length ocap) O.length (keyV O))
    (hgrow : ((wr.drewN n).alloc ob).grownBy w2 (Value.slice oa O.length ocap).ownBlock) (hown : w2.ownsRow w.heap.size 2 1 (.slice (some ⟨g, 0, none⟩) (O.length + 1) cap) (O.length + 1) (keyV O ++ [.int .i64 k])) :
    More w w2 ∧ w2.ownsRow w.heap.size 2 1 (.slice (some ⟨g, 0, none⟩) (O.length + 1) cap) (O ++ [k]).length (keyV (O ++ [k])) := by
  obtain ⟨_, _, _, hoo⟩ := owns_shape hO
  have hs : w.heap.size ≤ (wr.drewN n).heap.size := hM.size
  refine ⟨more_of (((more_trans hM (grownBy_drewN wr n none)).below.alloc hs ob).grown hgrow (by rw [World.size_alloc]; exact Nat.le_succ_of_le hs) (fun y hy => (hoo y hy).1)), ?_⟩
  rw [keyV_push, List.length_append]; exact hown

def DiffInv (S S' : Nat → Prop) (w : World) (M : List Int) (k x y : Value) (wr : World) : Prop :=
  ∃ (xs ys : List (Int × Int)) (O : List Int), TabV S w xs x ∧ TabV S' w ys y ∧ O ++ mergeD xs ys = M ∧ More w wr ∧ wr.ownsRow w.heap.size 2 1 k O.length (keyV O)

set_option maxRecDepth 100000 in
set_option maxHeartbeats 1000000 in
theorem diff_any (S S' : Nat → Prop) (l m : List (Int × Int)) (v v' : Value) (w : World) (hl : l.length < 1000000) (hm : m.length < 1000000) (h : TabV S w l v) (h' : TabV S' w m v') :
    Calls Try.prog 41 #[.agg #[v], .agg #[v']] w fun e w' => Below w.heap.size w w' ∧ ∃ v, e = .returned v ∧ Row (fun x => w.heap.size ≤ x) w' 1 (mergeD l m).length v (keyV (mergeD l m)) := by
  obtain ⟨a, cap, rfl, hr, hp⟩ := h
  obtain ⟨a', cap', rfl, hr', hp'⟩ := h'
  obtain ⟨i0, hi0, hz0, hz1, hz2⟩ := info_parts Try.info2
  have HT := Lib.hid (show TabV S w l (.slice a l.length cap) from ⟨a, cap, rfl, hr, hp⟩); clear hr hp
  have HT' := Lib.hid (show TabV S' w m (.slice a' m.length cap') from ⟨a', cap', rfl, hr', hp'⟩); clear hr' hp'
  have HLM := Lib.hid (show (mergeD l m).length < 2000000 by have := mergeD_len l m; omega)
  go_enter Try.func41, Try.ntmps41
  go_wp2_with fail
  generalize hw2 : (w.alloc (.cells #[.slice a l.length cap] 54)).alloc (.cells #[.slice a' m.length cap'] 54) = w2
  have hm2 : More w w2 := by rw [← hw2]; exact grownBy_alloc2 _ _ _ _
  have x2 : w2.heap[w.heap.size]? = some (.cells #[.slice a l.length cap] 54) := by rw [← hw2, Below.heap_alloc _ _ _ (by simp)]; exact alloc_last _ _
  have y2 : w2.heap[w.heap.size + 1]? = some (.cells #[.slice a' m.length cap'] 54) := by rw [← hw2]; exact alloc_at _ _ (by simp)
  have g0 : w2.cell? ⟨w.heap.size, 0, none⟩ = some (.slice a l.length cap) := by simp [World.cell?, x2]
  have g1 : w2.cell? ⟨w.heap.size + 1, 0, none⟩ = some (.slice a' m.length cap') := by simp [World.cell?, y2]
  clear hw2 x2 y2
  have HM2 := Lib.hid hm2; clear hm2
  go_quiet (fail)
  clear g0 g1
  go_wp2_with fail
  go_loopw [5, 6, 7] (fun k x y wr => Hid (DiffInv S S' w (mergeD l m) k x y wr)) (fun _ x y _ => lenV x + lenV y)
  case atStart => exact Lib.hid ⟨l, m, [], HT.out, HT'.out, rfl, more_trans HM2.out (grownBy_drewN _ _ _), World.ownsRow_nil _ _ _ _⟩
  case round =>
    obtain ⟨xs, ys, O, hx, hy, hM, hmw, hown⟩ := hrel.out
    have HM := Lib.hid hM; clear hM hrel
    have HMW := Lib.hid hmw; clear hmw
    obtain ⟨oa, ocap, rfl, hoo⟩ := owns_shape hown
    have HOWN := Lib.hid hown; clear hown
    have HOO := Lib.hid hoo; clear hoo
    have hbs := HMW.out.size
    have hO : O.length < 2000000 := by have := congrArg List.length HM.out; rw [List.length_append] at this; have := HLM.out; omega
    have HOWNN := Lib.hid (show ∀ n, (wr.drewN n).ownsRow w.heap.size 2 1 (.slice oa O.length ocap) O.length (keyV O) from fun n => owns_keep HOWN.out (fun _ _ => rfl))
    have hm1 : O.length + 1 ≤ maxLen := by unfold maxLen; omega
    have hm2 : (O.length + 1) * 8 ≤ 140737488355328 := by omega
    cases xs with
    | nil =>
      obtain ⟨xa, xc, rfl⟩ := hx.nil'
      have HX := Lib.hid hx; clear hx
      cases ys with
      | nil =>
        obtain ⟨ya, yc, rfl⟩ := hy.nil'
        clear hy
        go_wp2_with fail
        go_ret
        have e : O = mergeD l m := by have := HM.out; rwa [show mergeD [] [] = [] by simp [mergeD], List.append_nil] at this
        rw [← e, ← keyV_length O]
        exact ⟨HMW.out.below, _, rfl, Row.of_owns (by have := HOWN.out; rwa [← keyV_length O] at this)⟩
      | cons y s =>
        obtain ⟨b, off, yc, ya', ny, rfl, HNY, hy0, hyz, hyc, c0, c1, hsl, ht⟩ := hy.cons
        have HS := Lib.hid ht; clear ht hy
        have k0 := HMW.out.cell c0
        clear c0 c1
        have HE := Lib.hid (cat_step HM.out (show mergeD [] (y :: s) = y.1 :: mergeD [] s by rw [mergeD])); clear HM
        have hbk := cell_lt k0
        go_wp2_with fail
        go_quiet (fail)
        go_wp2_with fail
        go_quiet (fail)
        rw [World.drewN_drewN]
        go_wp2_with (at_builtin; refine wpList_append_lies _ rfl _ _ _ rfl w.heap.size 2 i0 _ 1 8 Try.underlying73 hi0 hz0 hz1 hz2 rfl (by omega) (.slice oa O.length ocap) O.length (keyV O) rfl ((HOWNN.out _).alloc _) ⟨wr.heap.size, 0, none⟩ 1 1 [.int .i64 y.1] rfl rfl (World.news_of_block (cs := #[.int .i64 y.1]) (t := 2) (fr := (0, 0)) (heap_alloc_new _ _)) (by simp [Value.oneCell']) (by omega) hm1 hm2 (Nat.le_trans hbs (by rw [World.size_alloc]; exact Nat.le_succ _)) _ rfl ?_; intro gg2 cap2 w2 hown2 hgrow2 hat2 hlt2)
        obtain ⟨hm3, ho3⟩ := diff_app HMW.out HOWN.out hgrow2 hown2
        have HM3 := Lib.hid hm3
        have HO3 := Lib.hid ho3
        clear hown2 hgrow2 hat2 hlt2 hm3 ho3
        go_wp2_with fail
        go_roundw
        case rel => exact Lib.hid ⟨[], s, O ++ [y.1], HX.out, HS.out, HE.out, HM3.out, HO3.out⟩
        case measure => have := HNY.out; simp [lenV]; omega
    | cons x r =>
      obtain ⟨b, off, xc, xa', nx, rfl, HNX, hx0, hxz, hxc, c0, c1, hsl, ht⟩ := hx.cons
      have HX := Lib.hid hx
      have HR := Lib.hid ht; clear ht hx
      have k0 := HMW.out.cell c0
      have k1 := HMW.out.cell c1
      clear c0 c1
      have hbk := cell_lt k0
      cases ys with
      | nil =>
        obtain ⟨ya, yc, rfl⟩ := hy.nil'
        have HY := Lib.hid hy; clear hy
        have HE := Lib.hid (cat_step HM.out (show mergeD (x :: r) [] = x.1 :: mergeD r [] by rw [mergeD])); clear HM
        go_wp2_with fail
        go_quiet (fail)
        go_wp2_with (at_builtin; refine wpList_append_lies _ rfl _ _ _ rfl w.heap.size 2 i0 _ 1 8 Try.underlying73 hi0 hz0 hz1 hz2 rfl (by omega) (.slice oa O.length ocap) O.length (keyV O) rfl ((HOWNN.out _).alloc _) ⟨wr.heap.size, 0, none⟩ 1 1 [.int .i64 x.1] rfl rfl (World.news_of_block (cs := #[.int .i64 x.1]) (t := 2) (fr := (0, 0)) (heap_alloc_new _ _)) (by simp [Value.oneCell']) (by omega) hm1 hm2 (Nat.le_trans hbs (by rw [World.size_alloc]; exact Nat.le_succ _)) _ rfl ?_; intro gg2 cap2 w2 hown2 hgrow2 hat2 hlt2)
        obtain ⟨hm3, ho3⟩ := diff_app HMW.out HOWN.out hgrow2 hown2
        have HM3 := Lib.hid hm3
        have HO3 := Lib.hid ho3
        clear hown2 hgrow2 hat2 hlt2 hm3 ho3
        go_wp2_with fail
        go_roundw
        case rel => exact Lib.hid ⟨r, [], O ++ [x.1], HR.out, HY.out, HE.out, HM3.out, HO3.out⟩
        case measure => have := HNX.out; simp [lenV]; omega
      | cons y s =>
        obtain ⟨b', off', yc, ya', ny, rfl, HNY, hy0, hyz, hyc, c0, c1, hsl', ht⟩ := hy.cons
        have HY := Lib.hid hy
        have HS := Lib.hid ht; clear ht hy
        have q0 := HMW.out.cell c0
        have q1 := HMW.out.cell c1
        clear c0 c1
        have hbq := cell_lt q0
        have HU := Lib.hid (show mergeD (x :: r) (y :: s) = if x.1 < y.1 then x.1 :: mergeD r (y :: s) else if y.1 < x.1 then y.1 :: mergeD (x :: r) s else if x.2 = y.2 then mergeD r s else x.1 :: mergeD r s by rw [mergeD])
        by_cases h1 : x.1 < y.1
        · have t1 : decide (x.1 < y.1) = true := by simp [h1]
          have HE := Lib.hid (cat_step HM.out (HU.out.trans (if_pos h1))); clear HM HU h1
          go_wp2_with fail
          go_quiet (fail)
          go_wp2_with (at_builtin; refine wpList_append_lies _ rfl _ _ _ rfl w.heap.size 2 i0 _ 1 8 Try.underlying73 hi0 hz0 hz1 hz2 rfl (by omega) (.slice oa O.length ocap) O.length (keyV O) rfl ((HOWNN.out _).alloc _) ⟨wr.heap.size, 0, none⟩ 1 1 [.int .i64 x.1] rfl rfl (World.news_of_block (cs := #[.int .i64 x.1]) (t := 2) (fr := (0, 0)) (heap_alloc_new _ _)) (by simp [Value.oneCell']) (by omega) hm1 hm2 (Nat.le_trans hbs (by rw [World.size_alloc]; exact Nat.le_succ _)) _ rfl ?_; intro gg2 cap2 w2 hown2 hgrow2 hat2 hlt2)
          obtain ⟨hm3, ho3⟩ := diff_app HMW.out HOWN.out hgrow2 hown2
          have HM3 := Lib.hid hm3
          have HO3 := Lib.hid ho3
          clear hown2 hgrow2 hat2 hlt2 hm3 ho3
          go_wp2_with fail
          go_roundw
          case rel => exact Lib.hid ⟨r, y :: s, O ++ [x.1], HR.out, HY.out, HE.out, HM3.out, HO3.out⟩
          case measure => have := HNX.out; have := HNY.out; simp [lenV]; omega
        · have t1 : decide (x.1 < y.1) = false := by simpa using h1
          by_cases h2 : y.1 < x.1
          · have t2 : decide (y.1 < x.1) = true := by simp [h2]
            have HE := Lib.hid (cat_step HM.out (HU.out.trans ((if_neg h1).trans (if_pos h2)))); clear HM HU h1 h2
            go_wp2_with fail
            go_quiet (fail)
            go_wp2_with fail
            go_quiet (fail)
            rw [World.drewN_drewN]
            go_wp2_with (at_builtin; refine wpList_append_lies _ rfl _ _ _ rfl w.heap.size 2 i0 _ 1 8 Try.underlying73 hi0 hz0 hz1 hz2 rfl (by omega) (.slice oa O.length ocap) O.length (keyV O) rfl ((HOWNN.out _).alloc _) ⟨wr.heap.size, 0, none⟩ 1 1 [.int .i64 y.1] rfl rfl (World.news_of_block (cs := #[.int .i64 y.1]) (t := 2) (fr := (0, 0)) (heap_alloc_new _ _)) (by simp [Value.oneCell']) (by omega) hm1 hm2 (Nat.le_trans hbs (by rw [World.size_alloc]; exact Nat.le_succ _)) _ rfl ?_; intro gg2 cap2 w2 hown2 hgrow2 hat2 hlt2)
            obtain ⟨hm3, ho3⟩ := diff_app HMW.out HOWN.out hgrow2 hown2
            have HM3 := Lib.hid hm3
            have HO3 := Lib.hid ho3
            clear hown2 hgrow2 hat2 hlt2 hm3 ho3
            go_wp2_with fail
            go_roundw
            case rel => exact Lib.hid ⟨x :: r, s, O ++ [y.1], HX.out, HS.out, HE.out, HM3.out, HO3.out⟩
            case measure => have := HNX.out; have := HNY.out; simp [lenV]; omega
          · have t2 : decide (y.1 < x.1) = false := by simpa using h2
            by_cases h3 : x.2 = y.2
            · have t3 : (x.2 != y.2) = false := by simp [h3]
              have HE := Lib.hid (show O ++ mergeD r s = mergeD l m by rw [← HM.out, HU.out, if_neg h1, if_neg h2, if_pos h3]); clear HM HU h1 h2 h3
              go_wp2_with fail
              go_quiet (fail)
              go_wp2_with fail
              go_quiet (fail)
              rw [World.drewN_drewN]
              go_wp2_with fail
              go_quiet (fail)
              rw [World.drewN_drewN]
              go_wp2_with fail
              go_quiet (fail)
              rw [World.drewN_drewN]
              go_wp2_with fail
              go_roundw
              case rel => exact Lib.hid ⟨r, s, O, HR.out, HS.out, HE.out, more_trans HMW.out (grownBy_drewN _ _ _), HOWNN.out _⟩
              case measure => have := HNX.out; have := HNY.out; simp [lenV]; omega
            · have t3 : (x.2 != y.2) = true := by simpa using h3
              have HE := Lib.hid (cat_step HM.out (HU.out.trans ((if_neg h1).trans ((if_neg h2).trans (if_neg h3))))); clear HM HU h1 h2 h3
              go_wp2_with fail
              go_quiet (fail)
              go_wp2_with fail
              go_quiet (fail)
              rw [World.drewN_drewN]
              go_wp2_with fail
              go_quiet (fail)
              rw [World.drewN_drewN]
              go_wp2_with (at_builtin; refine wpList_append_lies _ rfl _ _ _ rfl w.heap.size 2 i0 _ 1 8 Try.underlying73 hi0 hz0 hz1 hz2 rfl (by omega) (.slice oa O.length ocap) O.length (keyV O) rfl ((HOWNN.out _).alloc _) ⟨wr.heap.size, 0, none⟩ 1 1 [.int .i64 x.1] rfl rfl (World.news_of_block (cs := #[.int .i64 x.1]) (t := 2) (fr := (0, 0)) (heap_alloc_new _ _)) (by simp [Value.oneCell']) (by omega) hm1 hm2 (Nat.le_trans hbs (by rw [World.size_alloc]; exact Nat.le_succ _)) _ rfl ?_; intro gg2 cap2 w2 hown2 hgrow2 hat2 hlt2)
              obtain ⟨hm3, ho3⟩ := diff_app HMW.out HOWN.out hgrow2 hown2
              have HM3 := Lib.hid hm3
              have HO3 := Lib.hid ho3
              clear hown2 hgrow2 hat2 hlt2 hm3 ho3
              go_wp2_with fail
              go_quiet (fail)
              go_wp2_with fail
              go_roundw
              case rel => exact Lib.hid ⟨r, s, O ++ [x.1], HR.out, HS.out, HE.out, more_trans HM3.out (grownBy_drewN _ _ _), owns_keep HO3.out (fun _ _ => rfl)⟩
              case measure => have := HNX.out; have := HNY.out; simp [lenV]; omega
end Go.Proofs.Ytekhoanjpnjaeaa
