/- The reference's tables: ref09.Get (32), Delete (74), Put (75), Of (37), Same (34). -/
import Derived.Test.YtekhoanjpnjaeaaHoldE
namespace Go.Proofs.Ytekhoanjpnjaeaa
open Go.RowKit

theorem getL_none_iff (l : List (Int × Int)) (k : Int) : (∀ i (h : i < l.length), (l[i].1 == k) = false) → getL l k = none := fun h => getL_none_of fun y hy => by
  obtain ⟨i, hi, rfl⟩ := List.getElem_of_mem hy
  simpa using h i hi
theorem getL_first (l : List (Int × Int)) (k : Int) (j : Nat) (hj : j < l.length) (h : (l[j].1 == k) = true) (hn : ∀ i (_ : i < j), ((l[i]'(by omega)).1 == k) = false) : getL l k = some l[j].2 := by
  unfold getL
  rw [find_first l (fun x => x.1 == k) j hj h hn]; rfl

set_option maxRecDepth 100000 in
theorem rget_any (S : Nat → Prop) (l : List (Int × Int)) (k : Int) (v : Value) (w : World) (hl : l.length < 4294967296) (h : Row S w 2 l.length v (flat2 l)) :
    Calls Try.prog 32 #[v, .int .i64 k] w fun e w' => Below w.heap.size w w' ∧ e = .returned (.tuple #[.int .i64 ((getL l k).getD 0), .bool (getL l k).isSome]) := by
  obtain ⟨a, cap, rfl, hcap⟩ := h.shape
  have HR := Lib.hid h; clear h
  generalize hG : getL l k = G
  have HG := Lib.hid hG; clear hG
  go_enter Try.func32, Try.ntmps32
  go_wp2_with fail
  go_loopw [10] (fun i wr => ∃ j : Nat, j ≤ l.length ∧ i = .int .i64 j ∧ Hid (More w wr) ∧ Hid (∀ i (h : i < l.length), i < j → (l[i].1 == k) = false)) (fun i _ => l.length - (intOf i).toNat)
  case atStart => exact ⟨0, Nat.zero_le _, rfl, Lib.hid (World.grownBy.refl _ _), Lib.hid fun _ _ h => absurd h (Nat.not_lt_zero _)⟩
  case round =>
    obtain ⟨j, hj, rfl, HM, HN⟩ := hrel
    by_cases hlt : j < l.length
    · obtain ⟨b, off, rfl, _, _, hc⟩ := HR.out.at (by omega)
      have g0 := HM.out.cell (hc _ _ (flat2_get l j hlt).1)
      have g1 := HM.out.cell (hc _ _ (flat2_get l j hlt).2)
      rw [← Nat.add_assoc] at g1
      clear hc
      have hbg := cell_lt g0
      have HF := Lib.hid (fun (hh : (l[j].1 == k) = true) => getL_first l k j hlt hh (fun i hi => HN.out i (by omega) hi))
      have HK := Lib.hid (fun (hh : (l[j].1 == k) = false) i (hi : i < l.length) (hij : i < j + 1) => show (l[i].1 == k) = false by
        by_cases e : i = j
        · subst e; exact hh
        · exact HN.out i hi (by omega))
      generalize l[j] = x at *
      cases hx : (x.1 == k) with
      | true =>
        have HX := Lib.hid hx
        go_wp2_with fail
        go_ret2
        exact ⟨(more_trans HM.out (World.grownBy_alloc _ _ _)).below, by rw [← HG.out, HF.out HX.out]; rfl⟩
      | false =>
        have HX := Lib.hid hx
        go_wp2_with fail
        go_roundw
        case rel => exact ⟨j + 1, by omega, by go_num, Lib.hid (more_trans HM.out (World.grownBy_alloc _ _ _)), Lib.hid (HK.out HX.out)⟩
        case measure => simp [intOf]; omega
    · have HNN := Lib.hid (getL_none_iff l k (fun i hi => HN.out i hi (by omega)))
      go_wp2_with fail
      go_ret2
      exact ⟨HM.out.below, by rw [← HG.out, HNN.out]; rfl⟩

theorem delL_take (l : List (Int × Int)) (k : Int) (j : Nat) (hj : j < l.length) : delL (l.take (j + 1)) k = delL (l.take j) k ++ (if (l[j].1 == k) = true then [] else [l[j]]) := by
  unfold delL
  rw [List.take_succ_eq_append_getElem hj, List.filter_append]
  congr 1
  cases h : (l[j].1 == k) <;> simp [h]
theorem delL_le (l : List (Int × Int)) (k : Int) : (delL l k).length ≤ l.length := List.length_filter_le _ _

set_option maxRecDepth 100000 in
set_option maxHeartbeats 1000000 in
theorem rdel_any (S : Nat → Prop) (l : List (Int × Int)) (k : Int) (v : Value) (w : World) (hl : l.length < 4294967296) (h : Row S w 2 l.length v (flat2 l)) :
    Calls Try.prog 74 #[v, .int .i64 k] w fun e w' => Below w.heap.size w w' ∧ ∃ v', e = .returned v' ∧ Row (fun x => w.heap.size ≤ x) w' 2 (delL l k).length v' (flat2 (delL l k)) := by
  obtain ⟨a, cap, rfl, hcap⟩ := h.shape
  have HR := Lib.hid h; clear h
  obtain ⟨i0, hi0, hz0, hz1, hz2⟩ := info_parts Try.info66
  go_enter Try.func74, Try.ntmps74
  go_wp2_with fail
  go_loopw [5, 10] (fun o i wr => ∃ j : Nat, j ≤ l.length ∧ i = .int .i64 j ∧ Hid (More w wr) ∧ Hid (wr.ownsRow w.heap.size 66 2 o (delL (l.take j) k).length (flat2 (delL (l.take j) k)))) (fun _ i _ => l.length - (intOf i).toNat)
  case atStart => exact ⟨0, Nat.zero_le _, rfl, Lib.hid (World.grownBy.refl _ _), Lib.hid ⟨rfl, Or.inl ⟨rfl, rfl⟩⟩⟩
  case round =>
    obtain ⟨j, hj, rfl, HM, HO⟩ := hrel
    obtain ⟨oa, ocap, rfl, hoo⟩ := owns_shape HO.out
    have HOO := Lib.hid hoo; clear hoo
    by_cases hlt : j < l.length
    · obtain ⟨b, off, rfl, _, _, hc⟩ := HR.out.at (by omega)
      have g0 := HM.out.cell (hc _ _ (flat2_get l j hlt).1)
      have g1 := HM.out.cell (hc _ _ (flat2_get l j hlt).2)
      rw [← Nat.add_assoc] at g1
      clear hc
      have hbg := cell_lt g0
      have HT := Lib.hid (delL_take l k j hlt)
      have hL : (delL (l.take j) k).length ≤ j := Nat.le_trans (delL_le _ _) (List.length_take_le _ _)
      generalize delL (l.take j) k = O at *
      generalize l[j] = x at *
      have hsw := HM.out.size
      cases hx : (x.1 == k) with
      | true =>
        have HT2 := Lib.hid (show delL (l.take (j + 1)) k = O by rw [HT.out, if_pos hx, List.append_nil])
        have t1 : (x.1 != k) = false := by rw [bne, hx]; rfl
        clear hx
        go_wp2_with fail
        go_roundw
        case rel => exact ⟨j + 1, by omega, by go_num, Lib.hid (more_trans HM.out (World.grownBy_alloc _ _ _)), Lib.hid (by rw [HT2.out]; exact owns_keep HO.out (fun y hy => Below.heap_alloc _ _ _ (HOO.out y hy).2))⟩
        case measure => simp [intOf]; omega
      | false =>
        have HT2 := Lib.hid (show delL (l.take (j + 1)) k = O ++ [x] by rw [HT.out, if_neg (by rw [hx]; simp)])
        have t1 : (x.1 != k) = true := by rw [bne, hx]; rfl
        clear hx
        have hm1 : O.length + 1 ≤ maxLen := by unfold maxLen; omega
        have hm2 : (O.length + 1) * 16 ≤ 140737488355328 := by omega
        have HOW2 := Lib.hid (owns_keep (w' := (wr.alloc (.cells #[.int .i64 x.1, .int .i64 x.2] 66)).alloc (.cells #[.int .i64 x.1, .int .i64 x.2] 66)) HO.out (fun y hy => by
          have := (HOO.out y hy).2
          rw [Below.heap_alloc _ _ _ (by rw [World.size_alloc]; omega), Below.heap_alloc _ _ _ this]))
        have hbs : w.heap.size ≤ ((wr.alloc (.cells #[.int .i64 x.1, .int .i64 x.2] 66)).alloc (.cells #[.int .i64 x.1, .int .i64 x.2] 66)).heap.size := by rw [World.size_alloc, World.size_alloc]; omega
        go_wp2_with (at_builtin; refine wpList_append_lies _ rfl _ _ _ rfl w.heap.size 66 i0 _ 2 16 Try.underlying58 hi0 hz0 hz1 hz2 rfl (by omega) (.slice oa O.length ocap) O.length (flat2 O) rfl HOW2.out ⟨wr.heap.size + 1, 0, none⟩ 1 1 [.int .i64 x.1, .int .i64 x.2] rfl rfl (World.news_of_block (cs := #[.int .i64 x.1, .int .i64 x.2]) (t := 66) (fr := (0, 0)) (by rw [show wr.heap.size + 1 = (wr.alloc (.cells #[.int .i64 x.1, .int .i64 x.2] 66)).heap.size from (by simp)]; exact heap_alloc_new _ _)) (by simp [Value.oneCell']) (by omega) hm1 hm2 hbs _ rfl ?_; intro gg cap2 w2 hown2 hgrow2 hat2 hlt2)
        have HM2 := Lib.hid (show More w w2 from more_of (((HM.out.below.alloc HM.out.size _).alloc (by rw [World.size_alloc]; omega) _).grown hgrow2 hbs (fun y hy => (HOO.out y hy).1)))
        have HO2 := Lib.hid (show w2.ownsRow w.heap.size 66 2 (.slice (some ⟨gg, 0, none⟩) (O.length + 1) cap2) (O ++ [x]).length (flat2 (O ++ [x])) by rw [flat2_push, List.length_append]; exact hown2)
        clear hown2 hgrow2 hat2 hlt2
        go_wp2_with fail
        go_roundw
        case rel => exact ⟨j + 1, by omega, by go_num, HM2, Lib.hid (by rw [HT2.out]; exact HO2.out)⟩
        case measure => simp [intOf]; omega
    · have HE := Lib.hid (show l.take j = l from List.take_of_length_le (by omega))
      rw [HE.out] at HO
      rw [HE.out] at HOO
      rw [HE.out]
      go_wp2_with fail
      go_ret
      exact ⟨HM.out.below, _, rfl, Row.of_owns HO.out⟩

/-- Insertion ahead of the first greater key. -/
def insL : List (Int × Int) → Int → Int → List (Int × Int)
  | [], k, v => [(k, v)]
  | x :: r, k, v => if k < x.1 then (k, v) :: x :: r else x :: insL r k v
theorem ins_del : ∀ {l : List (Int × Int)}, Asc l → ∀ k v, insL (delL l k) k v = putL l k v
  | [], _, k, v => rfl
  | x :: r, h, k, v => by
    have h' := asc_cons.1 h
    unfold delL
    rw [List.filter_cons]
    by_cases e : x.1 = k
    · rw [if_neg (by simp [e])]
      have hd : (r.filter fun x => !(x.1 == k)) = r := List.filter_eq_self.2 fun y hy => by have := h'.1 y hy; simp; omega
      rw [hd, putL, if_neg (by omega), if_pos e]
      cases r with
      | nil => rfl
      | cons y s => have := h'.1 y List.mem_cons_self; rw [insL, if_pos (by omega)]
    · rw [if_pos (by simp [e]), insL, putL]
      by_cases c : k < x.1
      · rw [if_pos c, if_pos c]
        have hd : (r.filter fun x => !(x.1 == k)) = r := List.filter_eq_self.2 fun y hy => by have := h'.1 y hy; simp; omega
        rw [hd]
      · rw [if_neg c, if_neg c, if_neg e]
        have := ins_del h'.2 k v
        unfold delL at this
        rw [this]
theorem insL_take : ∀ (l : List (Int × Int)) (k v : Int) (j : Nat), j ≤ l.length → (∀ i (h : i < l.length), i < j → ¬ k < l[i].1) → insL l k v = l.take j ++ insL (l.drop j) k v
  | l, k, v, 0, _, _ => by simp
  | [], k, v, j + 1, h, _ => by simp at h
  | x :: r, k, v, j + 1, h, hn => by
    have h0 := hn 0 (by simp) (by omega)
    simp only [List.getElem_cons_zero] at h0
    rw [insL, if_neg h0, insL_take r k v j (by simpa using h) (fun i hi hij => by have := hn (i + 1) (by simpa using hi) (by omega); simpa using this)]
    simp
theorem insL_len (l : List (Int × Int)) (k v : Int) : (insL l k v).length = l.length + 1 := by
  induction l with
  | nil => rfl
  | cons x r ih => unfold insL; split <;> simp [ih]

/-- What is written of ref.Put's result after j rounds over D. -/
structure PutInv (D : List (Int × Int)) (k v : Int) (j : Nat) (done : Bool) (O : List (Int × Int)) : Prop where
  yes : done = true → O ++ D.drop j = insL D k v
  no : done = false → O = D.take j ∧ ∀ i (h : i < D.length), i < j → ¬ k < D[i].1
  len : O.length ≤ j + 1
theorem PutInv.start (D : List (Int × Int)) (k v : Int) : PutInv D k v 0 false [] := ⟨(fun h => by cases h), fun _ => ⟨rfl, fun _ _ h => absurd h (Nat.not_lt_zero _)⟩, by simp⟩
theorem PutInv.pass {D O : List (Int × Int)} {k v : Int} {j : Nat} {d : Bool} (h : PutInv D k v j d O) (hj : j < D.length) (hc : d = false → ¬ k < D[j].1) : PutInv D k v (j + 1) d (O ++ [D[j]]) := by
  refine ⟨fun hd => ?_, fun hd => ?_, by rw [List.length_append]; have := h.len; simp; omega⟩
  · rw [← h.yes hd, List.drop_eq_getElem_cons hj]; simp
  · obtain ⟨h1, h2⟩ := h.no hd
    refine ⟨by rw [h1, List.take_succ_eq_append_getElem hj], fun i hi hij => ?_⟩
    by_cases e : i = j
    · subst e; exact hc hd
    · exact h2 i hi (by omega)
theorem PutInv.put {D O : List (Int × Int)} {k v : Int} {j : Nat} (h : PutInv D k v j false O) (hj : j < D.length) (hc : k < D[j].1) : PutInv D k v (j + 1) true (O ++ [(k, v)] ++ [D[j]]) := by
  obtain ⟨h1, h2⟩ := h.no rfl
  have hl : O.length = j := by rw [h1, List.length_take]; omega
  refine ⟨fun _ => ?_, (fun hd => by cases hd), by simp [hl]⟩
  rw [insL_take D k v j (by omega) h2, List.drop_eq_getElem_cons hj, insL, if_pos hc, h1]
  simp
theorem PutInv.fin {D O : List (Int × Int)} {k v : Int} {j : Nat} {d : Bool} (h : PutInv D k v j d O) (hj : ¬ j < D.length) : insL D k v = if d = true then O else O ++ [(k, v)] := by
  cases d with
  | true =>
    have := h.yes rfl
    rw [List.drop_of_length_le (by omega), List.append_nil] at this
    rw [if_pos rfl, this]
  | false =>
    obtain ⟨h1, h2⟩ := h.no rfl
    rw [if_neg (by simp), insL_take D k v D.length (Nat.le_refl _) (fun i hi _ => h2 i hi (by omega)), List.drop_length, List.take_length, h1, List.take_of_length_le (show D.length ≤ j by omega)]
    rfl

theorem append66 {w wr : World} {o : Option Addr} {ocap : Nat} {O : List (Int × Int)} {ob : Obj} (HO : wr.ownsRow w.heap.size 66 2 (.slice o O.length ocap) O.length (flat2 O)) : (wr.alloc ob).ownsRow w.heap.size 66 2 (.slice o O.length ocap) O.length (flat2 O) := by
  obtain ⟨a, c, _, hoo⟩ := owns_shape HO
  exact owns_keep HO (fun y hy => Below.heap_alloc _ _ _ (hoo y hy).2)

set_option maxRecDepth 100000 in
set_option maxHeartbeats 2000000 in
theorem rput_any (S : Nat → Prop) (l : List (Int × Int)) (k v : Int) (lv : Value) (w : World) (hl : l.length < 4294967000) (hasc : Asc l) (h : Row S w 2 l.length lv (flat2 l)) :
    Calls Try.prog 75 #[lv, .int .i64 k, .int .i64 v] w fun e w' => Below w.heap.size w w' ∧ ∃ v', e = .returned v' ∧ Row (fun x => w.heap.size ≤ x) w' 2 (putL l k v).length v' (flat2 (putL l k v)) := by
  obtain ⟨a, cap, rfl, hcap⟩ := h.shape
  have HR := Lib.hid h; clear h
  have HP := Lib.hid (ins_del hasc k v); clear hasc
  obtain ⟨i0, hi0, hz0, hz1, hz2⟩ := info_parts Try.info66
  go_enter Try.func75, Try.ntmps75
  go_wp2_with fail
  refine (rdel_any S l k (.slice a l.length cap) w (by omega) HR.out).mono ?_
  rintro e w1 ⟨hb1, v1, rfl, hr1⟩
  obtain ⟨a1, cap1, rfl, hcap1⟩ := hr1.shape
  have HR1 := Lib.hid hr1; clear hr1
  have HM1 := Lib.hid (more_of hb1); clear hb1
  have hDl := delL_le l k
  generalize delL l k = D at *
  go_wp2_with fail
  go_loopw [7, 8, 15] (fun o dn i wr => ∃ (j : Nat) (d : Bool) (O : List (Int × Int)), j ≤ D.length ∧ i = .int .i64 j ∧ dn = .bool d ∧ Hid (More w1 wr) ∧ Hid (PutInv D k v j d O) ∧ Hid (wr.ownsRow w1.heap.size 66 2 o O.length (flat2 O))) (fun _ _ i _ => D.length - (intOf i).toNat)
  case atStart => exact ⟨0, false, [], Nat.zero_le _, rfl, rfl, Lib.hid (World.grownBy.refl _ _), Lib.hid (PutInv.start D k v), Lib.hid ⟨rfl, Or.inl ⟨rfl, rfl⟩⟩⟩
  case round =>
    obtain ⟨j, d, O, hj, rfl, rfl, HM, HI, HO⟩ := hrel
    obtain ⟨oa, ocap, rfl, hoo⟩ := owns_shape HO.out
    have HOO := Lib.hid hoo; clear hoo
    have hOl := HI.out.len
    have hsw := HM.out.size
    by_cases hlt : j < D.length
    · obtain ⟨b, off, rfl, _, _, hc⟩ := HR1.out.at (by omega)
      have g0 := HM.out.cell (hc _ _ (flat2_get D j hlt).1)
      have g1 := HM.out.cell (hc _ _ (flat2_get D j hlt).2)
      rw [← Nat.add_assoc] at g1
      clear hc
      have hbg := cell_lt g0
      have HPA := Lib.hid (HI.out.pass hlt)
      have HPU := Lib.hid (fun (e : d = false) (hc : k < D[j].1) => by subst e; exact HI.out.put hlt hc)
      generalize D[j] = x at *
      by_cases hput : d = false ∧ k < x.1
      · obtain ⟨rfl, hc⟩ := hput
        have HN := Lib.hid (HPU.out rfl hc)
        have t1 : decide (k < x.1) = true := by simpa using hc
        clear hc
        have hm1 : O.length + 1 ≤ maxLen := by unfold maxLen; omega
        have hm2 : (O.length + 1) * 16 ≤ 140737488355328 := by omega
        have HOW2 := Lib.hid (append66 (ob := .cells #[.int .i64 k, .int .i64 v] 66) (append66 (ob := .cells #[.int .i64 x.1, .int .i64 x.2] 66) HO.out))
        have hbs : w1.heap.size ≤ ((wr.alloc (.cells #[.int .i64 x.1, .int .i64 x.2] 66)).alloc (.cells #[.int .i64 k, .int .i64 v] 66)).heap.size := by rw [World.size_alloc, World.size_alloc]; omega
        have HXB := Lib.hid (show ((wr.alloc (.cells #[.int .i64 x.1, .int .i64 x.2] 66)).alloc (.cells #[.int .i64 k, .int .i64 v] 66)).heap[wr.heap.size]? = some (.cells #[.int .i64 x.1, .int .i64 x.2] 66) by rw [Below.heap_alloc _ _ _ (by simp)]; exact alloc_last _ _)
        have tok1 : True := trivial
        have HL2 := Lib.hid (show (O ++ [(k, v)]).length = O.length + 1 by simp)
        have hm3 : O.length + 1 + 1 ≤ maxLen := by unfold maxLen; omega
        have hm4 : (O.length + 1 + 1) * 16 ≤ 140737488355328 := by omega
        have HS2 := Lib.hid (fun (w2 : World) (hm : More w1 w2) (o : Obj) => show w1.heap.size ≤ (w2.alloc o).heap.size by rw [World.size_alloc]; have := hm.size; omega)
        have HS3 := Lib.hid (fun (w2 : World) (gg2 cap2 : Nat) (h : w2.ownsRow w1.heap.size 66 2 (.slice (some ⟨gg2, 0, none⟩) (O.length + 1) cap2) (O.length + 1) (flat2 O ++ [.int .i64 k, .int .i64 v])) => show (w2.alloc (.cells #[.int .i64 x.1, .int .i64 x.2] 66)).ownsRow w1.heap.size 66 2 (.slice (some ⟨gg2, 0, none⟩) (O.length + 1) cap2) (O.length + 1) (flat2 (O ++ [(k, v)])) by
          have h2 : w2.ownsRow w1.heap.size 66 2 (.slice (some ⟨gg2, 0, none⟩) (O ++ [(k, v)]).length cap2) (O ++ [(k, v)]).length (flat2 (O ++ [(k, v)])) := by rw [flat2_push, HL2.out]; exact h
          have h3 := append66 (ob := .cells #[.int .i64 x.1, .int .i64 x.2] 66) h2
          rwa [HL2.out] at h3)
        go_wp2_with (first | (at_builtin; have _t := tok1; refine wpList_append_lies _ rfl _ _ _ rfl w1.heap.size 66 i0 _ 2 16 Try.underlying58 hi0 hz0 hz1 hz2 rfl (by omega) (.slice oa O.length ocap) O.length (flat2 O) rfl HOW2.out ⟨wr.heap.size + 1, 0, none⟩ 1 1 [.int .i64 k, .int .i64 v] rfl rfl (World.news_of_block (cs := #[.int .i64 k, .int .i64 v]) (t := 66) (fr := (0, 0)) (by rw [show wr.heap.size + 1 = (wr.alloc (.cells #[.int .i64 x.1, .int .i64 x.2] 66)).heap.size from (by simp)]; exact heap_alloc_new _ _)) (by simp [Value.oneCell']) (by omega) hm1 hm2 hbs _ rfl ?_; intro gg2 cap2 w2 hown2 hgrow2 hat2 hlt2; have hx2 : w2.heap[wr.heap.size]? = some (.cells #[.int .i64 x.1, .int .i64 x.2] 66) := (hgrow2.block _ (by simp; omega) (fun e => by have := (HOO.out _ e.symm).2; omega)).trans HXB.out; have b0 : w2.cell? ⟨wr.heap.size, 0, none⟩ = some (.int .i64 x.1) := (by simp [World.cell?, hx2]); have b1 : w2.cell? ⟨wr.heap.size, 1, none⟩ = some (.int .i64 x.2) := (by simp [World.cell?, hx2]); have hb2 := cell_lt b0; have hM2 : More w1 w2 := more_of (((HM.out.below.alloc HM.out.size _).alloc (by rw [World.size_alloc]; omega) _).grown hgrow2 hbs (fun y hy => (HOO.out y hy).1)); have HM2 := Lib.hid hM2; have HOW3 := Lib.hid (HS3.out w2 gg2 cap2 hown2); have hbs3 := HS2.out w2 hM2 (.cells #[.int .i64 x.1, .int .i64 x.2] 66); have HGG := Lib.hid (show w1.heap.size ≤ gg2 from (by rcases hat2 with h | h; exact (HOO.out _ h).1; rw [h, World.size_alloc, World.size_alloc]; omega)); have tok2 : True := trivial; clear tok1 hx2 hown2 hgrow2 hat2 hlt2 hM2) | (at_builtin; have _t := tok2; refine wpList_append_lies _ rfl _ _ _ rfl w1.heap.size 66 i0 _ 2 16 Try.underlying58 hi0 hz0 hz1 hz2 rfl (by omega) (.slice (some ⟨gg2, 0, none⟩) (O.length + 1) cap2) (O.length + 1) (flat2 (O ++ [(k, v)])) rfl HOW3.out ⟨w2.heap.size, 0, none⟩ 1 1 [.int .i64 x.1, .int .i64 x.2] rfl rfl (World.news_of_block (cs := #[.int .i64 x.1, .int .i64 x.2]) (t := 66) (fr := (0, 0)) (heap_alloc_new _ _)) (by simp [Value.oneCell']) (by omega) hm3 hm4 hbs3 _ rfl ?_; intro gg3 cap3 w3 hown3 hgrow3 hat3 hlt3; clear tok2))
        have hgg := HGG.out
        have HM3 := Lib.hid (show More w1 w3 from more_of ((HM2.out.below.alloc HM2.out.size _).grown hgrow3 hbs3 (fun y hy => by have e : gg2 = y := (by simpa [Value.ownBlock] using hy); omega)))
        have HO3 := Lib.hid (show w3.ownsRow w1.heap.size 66 2 (.slice (some ⟨gg3, 0, none⟩) (O.length + 1 + 1) cap3) (O ++ [(k, v)] ++ [x]).length (flat2 (O ++ [(k, v)] ++ [x])) by rw [flat2_push, List.length_append, HL2.out]; exact hown3)
        clear hown3 hgrow3 hat3 hlt3
        go_wp2_with fail
        go_roundw
        case rel => exact ⟨j + 1, true, O ++ [(k, v)] ++ [x], by omega, by go_num, rfl, HM3, HN, HO3⟩
        case measure => simp [intOf]; omega
      · have HN := Lib.hid (HPA.out (fun hd hc => hput ⟨hd, hc⟩))
        have hm1 : O.length + 1 ≤ maxLen := by unfold maxLen; omega
        have hm2 : (O.length + 1) * 16 ≤ 140737488355328 := by omega
        have HOW2 := Lib.hid (append66 (ob := .cells #[.int .i64 x.1, .int .i64 x.2] 66) (append66 (ob := .cells #[.int .i64 x.1, .int .i64 x.2] 66) HO.out))
        have hbs : w1.heap.size ≤ ((wr.alloc (.cells #[.int .i64 x.1, .int .i64 x.2] 66)).alloc (.cells #[.int .i64 x.1, .int .i64 x.2] 66)).heap.size := by rw [World.size_alloc, World.size_alloc]; omega
        have tok1 : True := trivial
        have hdec : d = true ∨ (d = false ∧ decide (k < x.1) = false) := by
          cases d with
          | true => exact Or.inl rfl
          | false => exact Or.inr ⟨rfl, by simpa using fun hc => hput ⟨rfl, hc⟩⟩
        clear hput HPU HPA
        rcases hdec with rfl | ⟨rfl, t1⟩
        all_goals
          go_wp2_with (at_builtin; have _t := tok1; refine wpList_append_lies _ rfl _ _ _ rfl w1.heap.size 66 i0 _ 2 16 Try.underlying58 hi0 hz0 hz1 hz2 rfl (by omega) (.slice oa O.length ocap) O.length (flat2 O) rfl HOW2.out ⟨wr.heap.size + 1, 0, none⟩ 1 1 [.int .i64 x.1, .int .i64 x.2] rfl rfl (World.news_of_block (cs := #[.int .i64 x.1, .int .i64 x.2]) (t := 66) (fr := (0, 0)) (by rw [show wr.heap.size + 1 = (wr.alloc (.cells #[.int .i64 x.1, .int .i64 x.2] 66)).heap.size from (by simp)]; exact heap_alloc_new _ _)) (by simp [Value.oneCell']) (by omega) hm1 hm2 hbs _ rfl ?_; intro gg2 cap2 w2 hown2 hgrow2 hat2 hlt2; clear tok1)
          have HM2 := Lib.hid (show More w1 w2 from more_of (((HM.out.below.alloc HM.out.size _).alloc (by rw [World.size_alloc]; omega) _).grown hgrow2 hbs (fun y hy => (HOO.out y hy).1)))
          have HO2 := Lib.hid (show w2.ownsRow w1.heap.size 66 2 (.slice (some ⟨gg2, 0, none⟩) (O.length + 1) cap2) (O ++ [x]).length (flat2 (O ++ [x])) by rw [flat2_push, List.length_append]; exact hown2)
          clear hown2 hgrow2 hat2 hlt2
          go_wp2_with fail
          go_roundw
          case rel => exact ⟨j + 1, _, O ++ [x], by omega, by go_num, rfl, HM2, HN, HO2⟩
          case measure => simp [intOf]; omega
    · have HF := Lib.hid (HI.out.fin hlt)
      cases d with
      | true =>
        have HE := Lib.hid (show putL l k v = O by rw [← HP.out, HF.out]; rfl)
        go_wp2_with fail
        go_ret
        refine ⟨(more_trans HM1.out HM.out).below, _, rfl, ?_⟩
        rw [HE.out]
        exact (Row.of_owns HO.out).mono (fun x hx => by have h1 : w1.heap.size ≤ x := hx; have := HM1.out.size; show w.heap.size ≤ x; omega) (fun _ _ _ _ h => h)
      | false =>
        have HE := Lib.hid (show putL l k v = O ++ [(k, v)] by rw [← HP.out, HF.out]; rfl)
        have hm1 : O.length + 1 ≤ maxLen := by unfold maxLen; omega
        have hm2 : (O.length + 1) * 16 ≤ 140737488355328 := by omega
        have HOW2 := Lib.hid (append66 (ob := .cells #[.int .i64 k, .int .i64 v] 66) HO.out)
        have hbs : w1.heap.size ≤ (wr.alloc (.cells #[.int .i64 k, .int .i64 v] 66)).heap.size := by rw [World.size_alloc]; omega
        have tok1 : True := trivial
        go_wp2_with (at_builtin; have _t := tok1; refine wpList_append_lies _ rfl _ _ _ rfl w1.heap.size 66 i0 _ 2 16 Try.underlying58 hi0 hz0 hz1 hz2 rfl (by omega) (.slice oa O.length ocap) O.length (flat2 O) rfl HOW2.out ⟨wr.heap.size, 0, none⟩ 1 1 [.int .i64 k, .int .i64 v] rfl rfl (World.news_of_block (cs := #[.int .i64 k, .int .i64 v]) (t := 66) (fr := (0, 0)) (heap_alloc_new _ _)) (by simp [Value.oneCell']) (by omega) hm1 hm2 hbs _ rfl ?_; intro gg2 cap2 w2 hown2 hgrow2 hat2 hlt2; clear tok1)
        have HM2 := Lib.hid (show More w1 w2 from more_of ((HM.out.below.alloc HM.out.size _).grown hgrow2 hbs (fun y hy => (HOO.out y hy).1)))
        have HO2 := Lib.hid (show w2.ownsRow w1.heap.size 66 2 (.slice (some ⟨gg2, 0, none⟩) (O.length + 1) cap2) (O ++ [(k, v)]).length (flat2 (O ++ [(k, v)])) by rw [flat2_push, List.length_append]; exact hown2)
        clear hown2 hgrow2 hat2 hlt2
        go_wp2_with fail
        go_ret
        refine ⟨(more_trans HM1.out HM2.out).below, _, rfl, ?_⟩
        rw [HE.out]
        exact (Row.of_owns HO2.out).mono (fun x hx => by have h1 : w1.heap.size ≤ x := hx; have := HM1.out.size; show w.heap.size ≤ x; omega) (fun _ _ _ _ h => h)

theorem putL_len (l : List (Int × Int)) (k v : Int) : (putL l k v).length ≤ l.length + 1 := by
  induction l with
  | nil => simp [putL]
  | cons x r ih => unfold putL; split <;> (try split) <;> simp <;> omega
theorem ofL_len (l : List (Int × Int)) : (ofL l).length ≤ l.length := by
  rw [← dist_length]; exact distL_le l
theorem ofL_take (l : List (Int × Int)) (j : Nat) (hj : j < l.length) : ofL (l.take (j + 1)) = putL (ofL (l.take j)) l[j].1 l[j].2 := by
  rw [List.take_succ_eq_append_getElem hj, ofL_push]

set_option maxRecDepth 100000 in
set_option maxHeartbeats 1000000 in
theorem rof_any (S : Nat → Prop) (l : List (Int × Int)) (v : Value) (w : World) (hl : l.length < 4294960000) (h : Row S w 2 l.length v (flat2 l)) :
    Calls Try.prog 37 #[v] w fun e w' => Below w.heap.size w w' ∧ ∃ v', e = .returned v' ∧ Row (fun x => w.heap.size ≤ x) w' 2 (ofL l).length v' (flat2 (ofL l)) := by
  obtain ⟨a, cap, rfl, hcap⟩ := h.shape
  have HR := Lib.hid h; clear h
  go_enter Try.func37, Try.ntmps37
  go_wp2_with fail
  go_loopw [3, 8] (fun o i wr => ∃ j : Nat, j ≤ l.length ∧ i = .int .i64 j ∧ Hid (More w wr) ∧ Hid (Row (fun x => w.heap.size ≤ x) wr 2 (ofL (l.take j)).length o (flat2 (ofL (l.take j))))) (fun _ i _ => l.length - (intOf i).toNat)
  case atStart => exact ⟨0, Nat.zero_le _, rfl, Lib.hid (World.grownBy.refl _ _), Lib.hid (Row.nil _ _ _ _ _)⟩
  case round =>
    obtain ⟨j, hj, rfl, HM, HO⟩ := hrel
    obtain ⟨oa, ocap, rfl, _⟩ := HO.out.shape
    by_cases hlt : j < l.length
    · obtain ⟨b, off, rfl, _, _, hc⟩ := HR.out.at (by omega)
      have g0 := HM.out.cell (hc _ _ (flat2_get l j hlt).1)
      have g1 := HM.out.cell (hc _ _ (flat2_get l j hlt).2)
      rw [← Nat.add_assoc] at g1
      clear hc
      have hbg := cell_lt g0
      have HT := Lib.hid (ofL_take l j hlt)
      have hL : (ofL (l.take j)).length ≤ j := Nat.le_trans (ofL_len _) (List.length_take_le _ _)
      have HA := Lib.hid (asc_of (l.take j))
      generalize ofL (l.take j) = O at *
      generalize l[j] = x at *
      go_wp2_with fail
      generalize hw1 : wr.alloc (.cells #[.int .i64 x.1, .int .i64 x.2] 66) = w1
      have hm1 : More wr w1 := by rw [← hw1]; exact World.grownBy_alloc _ _ _
      clear hw1
      refine (rput_any (fun x => w.heap.size ≤ x) O x.1 x.2 (.slice oa O.length ocap) w1 (by omega) HA.out (HO.out.below hm1.below)).mono ?_
      rintro e w2 ⟨hb2, v2, rfl, hr2⟩
      have HM2 := Lib.hid (more_trans (more_trans HM.out hm1) (more_of hb2))
      have HO2 := Lib.hid (show Row (fun x => w.heap.size ≤ x) w2 2 (ofL (l.take (j + 1))).length v2 (flat2 (ofL (l.take (j + 1)))) by
        rw [HT.out]
        exact hr2.mono (fun y hy => by have h1 : w1.heap.size ≤ y := hy; have := HM.out.size; have := hm1.size; show w.heap.size ≤ y; omega) (fun _ _ _ _ h => h))
      clear hm1 hb2 hr2
      go_wp2_with fail
      go_roundw
      case rel => exact ⟨j + 1, by omega, by go_num, HM2, HO2⟩
      case measure => simp [intOf]; omega
    · have HE := Lib.hid (show l.take j = l from List.take_of_length_le (by omega))
      rw [HE.out] at HO
      rw [HE.out]
      go_wp2_with fail
      go_ret
      exact ⟨HM.out.below, _, rfl, HO.out⟩
end Go.Proofs.Ytekhoanjpnjaeaa
