/- expr.Reads (54): the sorted names and tables of a tree. -/
import Derived.Shelf.SlIter.Nil
import Derived.Shelf.SortM.Plain
import Derived.Shelf.SortM.SortNone
import Derived.Test.YtekhoanjpnjaeaaShelfM
import Derived.Test.YtekhoanjpnjaeaaColl
import Derived.Test.YtekhoanjpnjaeaaSortS
import Derived.Test.YtekhoanjpnjaeaaRAdd
namespace Go.Proofs.Ytekhoanjpnjaeaa
open Go.RowKit Go.Maps Go.Sort Go.Shelf

theorem Try.sorts101 (m : Nat) : AnyZ.SortsIn Try.prog Try.sorted101_ren Fence.wide m :=
  ⟨fun blk off cap ss W hH hblk hsz => callsIn_wide.2 (AnyM.slices_Sort_string Try.sort131 blk off cap ss W hH hblk hsz),
   fun p cap W => callsIn_wide.2 (AnyM.slices_Sort_string_none Try.sort131 p cap W)⟩

theorem Try.maps_Keys_102 (mb : Option Nat) (W : World) : CallsIn Fence.wide 5 Try.prog 102 #[.map mb] W fun e w' => e = .returned (.func (.func 132) #[] #[.pointer (some ⟨W.heap.size, 0, none⟩)]) ∧ w' = W.alloc (.cells #[.map mb] 181) :=
  AnyZ.keys_in Try.keys102 Fence.wide 5 trivial rfl mb W

set_option maxHeartbeats 1000000 in
theorem Try.slices_Sorted_keys_101_102 {H : Type} (b nn : Nat) (D0 : DataW H) (R : Value → Option (DataW H × List MemPlace)) (w : World) (hown : w.ownsMap Try.prog 9 R b nn D0) (hmax : Maps.size D0 ≤ maxLen) (hbytes : Maps.size D0 * 16 ≤ 140737488355328) :
    CallsIn Fence.wide 5 Try.prog 101 #[.func (.func 132) #[] #[.pointer (some ⟨w.heap.size, 0, none⟩)]] (w.alloc (.cells #[.map (some b)] 181)) fun e w' => ∃ (v : Value) (ss : List (List UInt8)), e = .returned v ∧ ss.Perm (strKeys D0) ∧
      w'.ownsRow (w.alloc (.cells #[.map (some b)] 181)).heap.size 9 1 v ss.length ((ss.mergeSort (fun x y => decide (x ≤ y))).map encStr) ∧ (v = .slice none 0 0 ↔ ss = []) ∧ Below (w.alloc (.cells #[.map (some b)] 181)).heap.size (w.alloc (.cells #[.map (some b)] 181)) w' := by
  have hbl := hown.lt
  have hseq : SeqGives Fence.wide 2 Try.prog 132 #[.pointer (some ⟨w.heap.size, 0, none⟩)] encStr (fun ss => ss.Perm (strKeys D0)) (Maps.size D0) (w.alloc (.cells #[.map (some b)] 181)) :=
    AnyZ.keys_gives (ρ := Try.keys102_ren) { Try.keys102 with } Fence.wide _ trivial rfl (by omega) w.heap.size b nn D0 _ (by simp) (by simp) (by
      obtain ⟨es, clock, hb, Ft, hs, hD⟩ := hown
      exact ⟨es, clock, (Below.heap_alloc _ _ b hbl).trans hb, Ft, hs, hD⟩)
  exact AnyZ.sorted_in Try.sorted101 Fence.wide 5 trivial trivial trivial trivial rfl (by omega) (Try.sorts101 _) (enters_of Try.func131 (by kernel_rfl) rfl) 132 #[.pointer (some ⟨w.heap.size, 0, none⟩)] trivial (enters_of Try.func132 (by kernel_rfl) rfl) _ _ hmax hbytes _ hseq


theorem sorted_any {w : World} {b : Nat} {X : List ByteArray} (h : SetMap w b X) (hX : X.length ≤ 1000000) :
    CallsIn Fence.wide 5 Try.prog 101 #[.func (.func 132) #[] #[.pointer (some ⟨w.heap.size, 0, none⟩)]] (w.alloc (.cells #[.map (some b)] 181)) fun e w' => ∃ a c, e = .returned (.slice a (setS X).length c) ∧ Row (fun _ => True) w' 1 (setS X).length (.slice a (setS X).length c) (sV (setS X)) ∧ Below (w.alloc (.cells #[.map (some b)] 181)).heap.size (w.alloc (.cells #[.map (some b)] 181)) w' := by
  obtain ⟨n, D, ho, hn, hD⟩ := h
  have hsz : Maps.size D ≤ 1000000 := Nat.le_trans ho.size_le (by omega)
  refine (Try.slices_Sorted_keys_101_102 b n D _ w ho (by unfold maxLen; omega) (by omega)).mono ?_
  rintro e w' ⟨v, ss, rfl, hp, hrow, _, hb⟩
  have he := sorted_keys ho hD hp
  have hl : ss.length = (setS X).length := by have := congrArg List.length he; simpa using this
  rw [he, hl] at hrow
  obtain ⟨a, c, rfl, _⟩ := owns_shape hrow
  exact ⟨a, c, rfl, (Row.of_owns hrow).mono (fun _ _ => trivial) (fun _ _ _ _ h => h), hb⟩

set_option maxRecDepth 100000 in
set_option maxHeartbeats 2000000 in
theorem reads_any (S : Nat → Prop) (d : Nat) (t : Ex) (c : Value) (w : World) (hf : Flds .u8 t) (hr : RepS .u8 S w d t.args c) (hS : ∀ x, S x → x < w.heap.size) (hA : (nms false t).length ≤ 1000) (hB : (nms true t).length ≤ 1000) :
    Calls Try.prog 54 #[agg .u8 t c] w fun e w' => More w w' ∧ ∃ a1 c1 a2 c2, e = .returned (.tuple #[.slice a1 (setS (nms false t)).length c1, .slice a2 (setS (nms true t)).length c2]) ∧
      Row (fun _ => True) w' 1 (setS (nms false t)).length (.slice a1 (setS (nms false t)).length c1) (sV (setS (nms false t))) ∧ Row (fun _ => True) w' 1 (setS (nms true t)).length (.slice a2 (setS (nms true t)).length c2) (sV (setS (nms true t))) := by
  obtain ⟨a, cap, rfl⟩ := hr.shape
  have hmm := run_makeMap181
  have HF := Lib.hid hf; clear hf
  have HR := Lib.hid hr; clear hr
  have HS := Lib.hid hS; clear hS
  have HA := Lib.hid hA; clear hA
  have HB := Lib.hid hB; clear hB
  unfold agg
  refine (callsIn_wide (n := 6)).1 ?_
  refine callsIn_of_wp Try.func54 rfl trivial ?_ rfl
  simp only [Try.ntmps54, List.size_toArray, List.length_cons, List.length_nil, Nat.reduceAdd, Nat.reduceSub, Array.replicate_succ, Array.replicate_zero, List.push_toArray, List.append_toArray, List.nil_append, List.cons_append]
  gi_wp2_with fail
  have hB3 : Below w.heap.size w (((w.alloc (.cells #[.int .u8 t.op, .string t.name, .int .i64 t.n, .slice a t.args.length cap] 41)).alloc (.map #[] 0)).alloc (.map #[] 0)) := (((Below.refl _ _).alloc (Nat.le_refl _) _).alloc (by simp) _).alloc (by simp; omega) _
  have hx3 : (((w.alloc (.cells #[.int .u8 t.op, .string t.name, .int .i64 t.n, .slice a t.args.length cap] 41)).alloc (.map #[] 0)).alloc (.map #[] 0)).heap[w.heap.size]? = some (.cells #[.int .u8 t.op, .string t.name, .int .i64 t.n, .slice a t.args.length cap] 41) := by
    rw [Below.heap_alloc _ _ _ (by simp; omega), Below.heap_alloc _ _ _ (by simp)]; exact alloc_at _ _ rfl
  have hX3 : SetMap (((w.alloc (.cells #[.int .u8 t.op, .string t.name, .int .i64 t.n, .slice a t.args.length cap] 41)).alloc (.map #[] 0)).alloc (.map #[] 0)) (w.heap.size + 1) [] := by
    have h := SetMap.start (w.alloc (.cells #[.int .u8 t.op, .string t.name, .int .i64 t.n, .slice a t.args.length cap] 41))
    rw [World.size_alloc] at h
    exact h.keep (Below.heap_alloc _ _ _ (by simp))
  have hY3 : SetMap (((w.alloc (.cells #[.int .u8 t.op, .string t.name, .int .i64 t.n, .slice a t.args.length cap] 41)).alloc (.map #[] 0)).alloc (.map #[] 0)) (w.heap.size + 1 + 1) [] := by
    have h := SetMap.start ((w.alloc (.cells #[.int .u8 t.op, .string t.name, .int .i64 t.n, .slice a t.args.length cap] 41)).alloc (.map #[] 0))
    rw [World.size_alloc, World.size_alloc] at h
    exact h
  have hsz : w.heap.size + 1 + 1 + 1 = (((w.alloc (.cells #[.int .u8 t.op, .string t.name, .int .i64 t.n, .slice a t.args.length cap] 41)).alloc (.map #[] 0)).alloc (.map #[] 0)).heap.size := by simp
  generalize ((w.alloc (.cells #[.int .u8 t.op, .string t.name, .int .i64 t.n, .slice a t.args.length cap] 41)).alloc (.map #[] 0)).alloc (.map #[] 0) = w3 at *
  have HB3 := Lib.hid hB3
  have HX3 := Lib.hid hX3
  have HY3 := Lib.hid hY3
  have HSZ := Lib.hid hsz
  have HAT := Lib.hid (show RepAt .u8 (fun x => x < w.heap.size) w3 d t w.heap.size 0 from
    ⟨by simp [World.cell?, hx3], by simp [World.cell?, hx3], by simp [World.cell?, hx3], HF.out, _, by simp [World.cell?, hx3], (HR.out.below hB3).mono (fun b hb => HS.out b hb) (fun _ _ _ _ h => h) (Nat.le_refl _)⟩)
  clear hB3 hx3 hX3 hY3 hmm hsz
  refine ⟨trivial, (callsIn_wide.2 (collect_any d (fun x => x < w.heap.size) t w.heap.size 0 w3 (w.heap.size + 1) (w.heap.size + 1 + 1) [] [] HAT.out HX3.out HY3.out (by omega) (fun x hx => ⟨by omega, by omega⟩) (by omega) (by omega) (by have := HA.out; simp; omega) (by have := HB.out; simp; omega))).mono ?_⟩
  rintro e w4 ⟨rfl, ht4, hx4, hy4⟩
  rw [List.nil_append] at hx4 hy4
  have HM4 := Lib.hid (show More w w4 from more_of (HB3.out.trans (ht4.below (by have := HSZ.out; omega) (by omega) (by omega))))
  have HX4 := Lib.hid hx4
  have HY4 := Lib.hid hy4
  clear ht4 hx4 hy4
  gi_wp2_with fail
  refine ⟨trivial, (Try.maps_Keys_102 _ _).mono ?_⟩
  rintro e w' ⟨rfl, hw'⟩
  rw [hw']; clear hw' w'
  gi_wp2_with fail
  refine ⟨trivial, (sorted_any HX4.out (by have := HA.out; omega)).mono ?_⟩
  rintro e w5 ⟨na, nc, rfl, hr5, hb5⟩
  have HM45 := Lib.hid (show More w4 w5 from more_trans (World.grownBy_alloc _ _ _) (more_of hb5))
  have HR5 := Lib.hid hr5
  have HY5 := Lib.hid (HY4.out.below HM45.out.below)
  clear hr5 hb5
  gi_wp2_with fail
  refine ⟨trivial, (Try.maps_Keys_102 _ _).mono ?_⟩
  rintro e w' ⟨rfl, hw'⟩
  rw [hw']; clear hw' w'
  gi_wp2_with fail
  refine ⟨trivial, (sorted_any HY5.out (by have := HB.out; omega)).mono ?_⟩
  rintro e w6 ⟨ta, tc, rfl, hr6, hb6⟩
  have HM56 := Lib.hid (show More w5 w6 from more_trans (World.grownBy_alloc _ _ _) (more_of hb6))
  have HR6 := Lib.hid hr6
  clear hr6 hb6
  gi_wp2_with fail
  go_ret2
  exact ⟨more_trans HM4.out (more_trans HM45.out HM56.out), na, nc, ta, tc, rfl, HR5.out.below HM56.out.below, HR6.out⟩
end Go.Proofs.Ytekhoanjpnjaeaa
