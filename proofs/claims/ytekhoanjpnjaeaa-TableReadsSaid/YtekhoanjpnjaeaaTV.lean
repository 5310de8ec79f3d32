/- The table's functions at tables, wherever they lie. -/
import Derived.Test.YtekhoanjpnjaeaaOfT
import Derived.Test.YtekhoanjpnjaeaaTold
import Derived.Test.YtekhoanjpnjaeaaBSame
namespace Go.Proofs.Ytekhoanjpnjaeaa
open Go.RowKit

/-- v is a table of the program's: its one field reads as l. -/
abbrev TV (w : World) (l : List (Int × Int)) (v : Value) : Prop := TabV (fun _ => True) w l v
theorem row_lt {S : Nat → Prop} {w : World} {size n : Nat} {v : Value} {xs : List Value} (hs : 0 < size) (h : Row S w size n v xs) : Row (fun b => b < w.heap.size) w size n v xs :=
  h.mono2 hs (fun _ _ _ _ hc => ⟨cell_lt hc, hc⟩)
theorem TV.more {w w' : World} {l : List (Int × Int)} {v : Value} (h : TV w l v) (hm : More w w') : TV w' l v := h.below hm.below
theorem TV.any {S : Nat → Prop} {w : World} {l : List (Int × Int)} {v : Value} (h : TabV S w l v) : TV w l v := h.mono fun _ _ => trivial
theorem TV.shape {w : World} {l : List (Int × Int)} {v : Value} (h : TV w l v) : ∃ a cap, v = .slice a l.length cap := by
  obtain ⟨a, cap, rfl, _⟩ := h; exact ⟨a, cap, rfl⟩
theorem TV.nil (w : World) : TV w [] (.slice none 0 0) := ⟨none, 0, rfl, Row.nil _ _ _ _ _, Or.inl ⟨rfl, rfl⟩⟩

theorem del_tab (l : List (Int × Int)) (k : Int) (v : Value) (w : World) (hl : l.length < 1000000) (hasc : Asc l) (h : TV w l v) :
    Calls Try.prog 40 #[.agg #[v], .int .i64 k] w fun e w' => More w w' ∧ ∃ v', e = .returned (.agg #[v']) ∧ TV w' (delL l k) v' := by
  obtain ⟨a, cap, rfl, hr, hp⟩ := h
  refine (del_any _ l k a cap w hl hasc hr hp).mono ?_
  rintro e w' ⟨hb, a', c', rfl, hr', hp'⟩
  exact ⟨more_of hb, _, rfl, a', c', rfl, hr'.mono (fun _ _ => trivial) (fun _ _ _ _ h => h), hp'⟩
theorem put_tab (l : List (Int × Int)) (k x : Int) (v : Value) (w : World) (hl : l.length < 1000000) (hasc : Asc l) (h : TV w l v) :
    Calls Try.prog 44 #[.agg #[v], .int .i64 k, .int .i64 x] w fun e w' => More w w' ∧ ∃ v', e = .returned (.agg #[v']) ∧ TV w' (putL l k x) v' := by
  obtain ⟨a, cap, rfl, hr, hp⟩ := h
  refine (put_any _ l k x a cap w hl hasc hr hp).mono ?_
  rintro e w' ⟨hb, a', c', rfl, hr', hp'⟩
  exact ⟨more_of hb, _, rfl, a', c', rfl, hr'.mono (fun _ _ => trivial) (fun _ _ _ _ h => h), hp'⟩
theorem of_tv {N : Nat} (hs : SortSaid N) (S : Nat → Prop) (l : List (Int × Int)) (v : Value) (w : World) (hlN : l.length ≤ N) (hl : l.length < 1000000) (h : Row S w 2 l.length v (flat2 l)) :
    Calls Try.prog 38 #[v] w fun e w' => More w w' ∧ ∃ v', e = .returned (.agg #[v']) ∧ TV w' (ofL l) v' := by
  refine (of_tab hs S l v w hlN hl h).mono ?_
  rintro e w' ⟨hb, v', rfl, ht⟩
  exact ⟨more_of hb, v', rfl, TV.any ht⟩
theorem told_tv (l : List (Int × Int)) (v : Value) (w : World) (hl : l.length < 1000000) (h : TV w l v) :
    Calls Try.prog 35 #[.agg #[v]] w fun e w' => More w w' ∧ ∃ v', e = .returned v' ∧ Row (fun _ => True) w' 2 l.length v' (flat2 l) := by
  obtain ⟨a, cap, rfl, hr, hp⟩ := h
  refine (told_any l a cap w (by omega) (row_lt (by omega) hr)).mono ?_
  rintro e w' ⟨hb, v', rfl, hr'⟩
  exact ⟨more_of hb, v', rfl, hr'.mono (fun _ _ => trivial) (fun _ _ _ _ h => h)⟩
theorem get_tv (l : List (Int × Int)) (k : Int) (v : Value) (w : World) (hl : l.length < 1000000) (hasc : Asc l) (h : TV w l v) :
    Calls Try.prog 31 #[.agg #[v], .int .i64 k] w fun e w' => More w w' ∧ e = .returned (.tuple #[.int .i64 ((getL l k).getD 0), .bool (getL l k).isSome]) := by
  obtain ⟨a, cap, rfl, hr, hp⟩ := h
  refine (get_any _ l k _ w (by omega) hasc hr).mono ?_
  rintro e w' ⟨hb, he⟩
  exact ⟨more_of hb, he⟩
theorem len_tv (l : List (Int × Int)) (v : Value) (w : World) (h : TV w l v) :
    Calls Try.prog 33 #[.agg #[v]] w fun e w' => More w w' ∧ e = .returned (.int .i64 l.length) := by
  obtain ⟨a, cap, rfl, hr, hp⟩ := h
  refine (len_any l.length cap a w).mono ?_
  rintro e w' ⟨rfl, rfl⟩
  exact ⟨World.grownBy_alloc _ _ _, rfl⟩
theorem diff_tv (l m : List (Int × Int)) (v v' : Value) (w : World) (hl : l.length < 1000000) (hm : m.length < 1000000) (h : TV w l v) (h' : TV w m v') :
    Calls Try.prog 41 #[.agg #[v], .agg #[v']] w fun e w' => More w w' ∧ ∃ v, e = .returned v ∧ Row (fun _ => True) w' 1 (mergeD l m).length v (keyV (mergeD l m)) := by
  refine (diff_any _ _ l m v v' w hl hm h h').mono ?_
  rintro e w' ⟨hb, v', rfl, hr'⟩
  exact ⟨more_of hb, v', rfl, hr'.mono (fun _ _ => trivial) (fun _ _ _ _ h => h)⟩
theorem bytes_tv (S' : Nat → Prop) (l : List (Int × Int)) (v : Value) (p : List Int) (pv : Value) (w : World) (hl : l.length < 1000000) (hp : p.length + 20 * l.length + 64 ≤ 140737488355328) (hasc : Asc l) (hwf : WfT l) (h : TV w l v) (hv : ByV S' w p pv) :
    Calls Try.prog 45 #[.agg #[v], pv] w fun e w' => More w w' ∧ ∃ v', e = .returned v' ∧ w'.ownsRow w.heap.size 5 1 v' (p ++ encT l).length (bV (p ++ encT l)) := by
  obtain ⟨a, cap, rfl, hr, _⟩ := h
  refine (tbytes_any _ S' l a cap p pv w hl hp hasc hwf hr hv).mono ?_
  rintro e w' ⟨hb, hrest⟩
  exact ⟨more_of hb, hrest⟩
end Go.Proofs.Ytekhoanjpnjaeaa
