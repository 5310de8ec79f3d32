/- Table.Bytes (45); ref01.Same (46). -/
import Derived.Test.YtekhoanjpnjaeaaPutN
import Derived.Deep.RegionHeld3
namespace Go.Proofs.Ytekhoanjpnjaeaa
open Go.RowKit

def I64 (x : Int) : Prop := -9223372036854775808 ≤ x ∧ x ≤ 9223372036854775807
def WfT (l : List (Int × Int)) : Prop := ∀ x ∈ l, I64 x.1 ∧ I64 x.2
/-- The entries' bytes behind the key p. -/
def encL : Option Int → List (Int × Int) → List Int
  | _, [] => []
  | none, x :: r => (encU (zz x.1) ++ encU (zz x.2)) ++ encL (some x.1) r
  | some p, x :: r => (encU (x.1 - p - 1).toNat ++ encU (zz x.2)) ++ encL (some x.1) r
/-- The bytes of a table. -/
def encT (l : List (Int × Int)) : List Int := encU l.length ++ encL none l
theorem encL_len : ∀ (l : List (Int × Int)) (p : Option Int), WfT l → Asc l → (∀ q, p = some q → I64 q ∧ ∀ x ∈ l, q < x.1) → (encL p l).length ≤ 20 * l.length
  | [], _, _, _, _ => by simp [encL]
  | x :: r, p, hw, ha, hp => by
    obtain ⟨hx1, hx2⟩ := hw x List.mem_cons_self
    have ha' := asc_cons.1 ha
    have ih := encL_len r (some x.1) (fun y hy => hw y (List.mem_cons_of_mem _ hy)) ha'.2 (fun q hq => by cases hq; exact ⟨hx1, ha'.1⟩)
    have h2 := encU_len (zz x.2) (zz_lt hx2.1 hx2.2)
    cases p with
    | none =>
      have h1 := encU_len (zz x.1) (zz_lt hx1.1 hx1.2)
      simp only [encL, List.length_append, List.length_cons]; omega
    | some q =>
      obtain ⟨hq, hlt⟩ := hp q rfl
      have hlt' := hlt x List.mem_cons_self
      have h1 := encU_len (x.1 - q - 1).toNat (by have := hq.1; have := hx1.2; omega)
      simp only [encL, List.length_append, List.length_cons]; omega
/-- The key ahead of the place j. -/
def prevK (l : List (Int × Int)) : Nat → Option Int
  | 0 => none
  | j + 1 => l[j]?.map (·.1)

theorem prevK_succ {l : List (Int × Int)} {j : Nat} (h : j < l.length) : prevK l (j + 1) = some l[j].1 := by
  show l[j]?.map (·.1) = _
  rw [List.getElem?_eq_getElem h]; rfl
theorem owns_some {w : World} {B : Nat} {e : TypeId} {n size : Nat} {v : Value} {xs : List Value} (h : w.ownsRow B e size v n xs) (hn : 0 < n) : ∃ g cap, v = .slice (some ⟨g, 0, none⟩) n cap ∧ B ≤ g ∧ g < w.heap.size := by
  have hl := h.lt
  obtain ⟨_, h | ⟨g, c, cur, rfl, hg, _⟩⟩ := h
  · omega
  · exact ⟨g, c, rfl, hl g rfl⟩
theorem putInt_nil (x : Int) (w : World) (h1 : I64 x) : Calls Try.prog 85 #[.slice none 0 0, .int .i64 x] w fun e w' => Below w.heap.size w w' ∧ ∃ g cap, e = .returned (.slice (some ⟨g, 0, none⟩) (encU (zz x)).length cap) ∧ ByV (fun b => w.heap.size ≤ b) w' (encU (zz x)) (.slice (some ⟨g, 0, none⟩) (encU (zz x)).length cap) := by
  refine (putInt_any (fun _ => False) [] (.slice none 0 0) x w h1.1 h1.2 (by simp) (ByV.nil _ _)).mono ?_
  rintro e w' ⟨hb, v', rfl, ho⟩
  rw [List.nil_append] at ho
  obtain ⟨g, cap, rfl, _⟩ := owns_some ho (encU_pos _)
  exact ⟨hb, g, cap, rfl, ByV.of_owns ho⟩
theorem putUint_nil (u : Nat) (w : World) (hu : u < 18446744073709551616) : Calls Try.prog 84 #[.slice none 0 0, .int .u64 u] w fun e w' => Below w.heap.size w w' ∧ ∃ g cap, e = .returned (.slice (some ⟨g, 0, none⟩) (encU u).length cap) ∧ ByV (fun b => w.heap.size ≤ b) w' (encU u) (.slice (some ⟨g, 0, none⟩) (encU u).length cap) := by
  refine (putUint_any (fun _ => False) [] (.slice none 0 0) u w hu (by simp) (ByV.nil _ _)).mono ?_
  rintro e w' ⟨hb, v', rfl, ho⟩
  rw [List.nil_append] at ho
  obtain ⟨g, cap, rfl, _⟩ := owns_some ho (encU_pos _)
  exact ⟨hb, g, cap, rfl, ByV.of_owns ho⟩

/-- append(q, x...) where q is a row of one's own and x was made behind it. -/
theorem byts_app {B : Nat} {w wr w1 w2 : World} {O E : List Int} {oa : Option Addr} {ocap g cap : Nat} (hM : Below B w wr) (hB : B ≤ w.heap.size) (hm1 : More wr w1) (hO : wr.ownsRow B 5 1 (.slice oa O.length ocap) O.length (bV O))
    (hgrow : w1.grownBy w2 (Value.slice oa O.length ocap).ownBlock) (hown : w2.ownsRow B 5 1 (.slice (some ⟨g, 0, none⟩) (O.length + E.length) cap) (O.length + E.length) (bV O ++ bV E)) :
    Below B w w2 ∧ w2.ownsRow B 5 1 (.slice (some ⟨g, 0, none⟩) (O ++ E).length cap) (O ++ E).length (bV (O ++ E)) := by
  obtain ⟨_, _, _, hoo⟩ := owns_shape hO
  have hs : B ≤ w1.heap.size := Nat.le_trans (Nat.le_trans hB hM.size) hm1.size
  refine ⟨(hM.trans (hm1.below.mono (Nat.le_trans hB hM.size))).grown hgrow hs (fun y hy => (hoo y hy).1), ?_⟩
  rw [bV_append, List.length_append]; exact hown
theorem owns_base {w : World} {B B' : Nat} {e : TypeId} {n size : Nat} {v : Value} {xs : List Value} (h : w.ownsRow B e size v n xs) (hB : B' ≤ B) : w.ownsRow B' e size v n xs := by
  obtain ⟨hl, h | ⟨g, cap, cur, rfl, hg, r⟩⟩ := h
  · exact ⟨hl, Or.inl h⟩
  · exact ⟨hl, Or.inr ⟨g, cap, cur, rfl, Nat.le_trans hB hg, r⟩⟩
theorem owns_more {B : Nat} {wr w1 : World} {O : List Int} {v : Value} (hm1 : More wr w1) (hO : wr.ownsRow B 5 1 v O.length (bV O)) : w1.ownsRow B 5 1 v O.length (bV O) := by
  obtain ⟨_, _, _, hoo⟩ := owns_shape hO
  exact owns_keep hO (fun x hx => hm1.block (hoo x hx).2)
/-- Behind such an append: everything that a round needs. -/
structure BytsInv (B : Nat) (w : World) (k : Nat) (ob : Obj) (O : List Int) (n : Nat) (v : Value) (w' : World) : Prop where
  below : Below B w w'
  box : w'.heap[k]? = some ob
  own : w'.ownsRow B 5 1 v n (bV O)
  ne : v.ownBlock ≠ some k
theorem BytsInv.size {B : Nat} {w w' : World} {k n : Nat} {ob : Obj} {O : List Int} {v : Value} (h : BytsInv B w k ob O n v w') (hB : B ≤ w.heap.size) : B ≤ w'.heap.size := Nat.le_trans hB h.below.size
theorem BytsInv.more {B : Nat} {w w1 w' : World} {k n : Nat} {ob : Obj} {O : List Int} {v : Value} (h : BytsInv B w k ob O n v w1) (hB : B ≤ w.heap.size) (hm : More w1 w') : BytsInv B w k ob O n v w' := by
  obtain ⟨_, _, _, hoo⟩ := owns_shape h.own
  exact ⟨h.below.trans (hm.below.mono (h.size hB)), (hm.block (Array.getElem?_eq_some_iff.1 h.box).1).trans h.box, owns_keep h.own (fun x hx => hm.block (hoo x hx).2), h.ne⟩
theorem BytsInv.app {B : Nat} {w w1 w2 : World} {k n : Nat} {ob : Obj} {O E : List Int} {oa : Option Addr} {ocap g cap : Nat} (h : BytsInv B w k ob O n (.slice oa n ocap) w1) (hB : B ≤ w.heap.size)
    (hgrow : w1.grownBy w2 (Value.slice oa n ocap).ownBlock) (hown : w2.ownsRow B 5 1 (.slice (some ⟨g, 0, none⟩) (n + E.length) cap) (n + E.length) (bV O ++ bV E)) (hat : (Value.slice oa n ocap).ownBlock = some g ∨ g = w1.heap.size) :
    BytsInv B w k ob (O ++ E) (n + E.length) (.slice (some ⟨g, 0, none⟩) (n + E.length) cap) w2 := by
  have hlt := (Array.getElem?_eq_some_iff.1 h.box).1
  obtain ⟨_, _, _, hoo⟩ := owns_shape h.own
  refine ⟨h.below.grown hgrow (h.size hB) (fun y hy => (hoo y hy).1), (hgrow.block k hlt (fun e => h.ne e.symm)).trans h.box, by rw [bV_append]; exact hown, fun e => ?_⟩
  have e' : g = k := by simpa [Value.ownBlock] using e
  rcases hat with h' | h'
  · exact h.ne (by rw [h', e'])
  · omega
/-- A block that the call itself made is not the row. -/
theorem BytsInv.more_box {B : Nat} {w w' : World} {k n : Nat} {ob : Obj} {O : List Int} {v : Value} (h : BytsInv B w k ob O n v w') : k < w'.heap.size := (Array.getElem?_eq_some_iff.1 h.box).1

theorem keep3 {w' : World} {k k' : Nat} {u v t : Value} {ty ty' : TypeId} {P : Prop} (h : w'.heap[k]? = some (.cells #[u, v] ty)) (h' : w'.heap[k']? = some (.cells #[t] ty')) (hp : P) :
    w'.cell? ⟨k, 0, none⟩ = some u ∧ w'.cell? ⟨k', 0, none⟩ = some t ∧ P := ⟨by simp [World.cell?, h], by simp [World.cell?, h'], hp⟩
theorem wrap_sub {x y : Int} (hx : I64 x) (hy : I64 y) (h : y < x) : IntKind.u64.wrap (IntKind.u64.wrap (IntKind.u64.wrap x - IntKind.u64.wrap y) - 1) = ((x - y - 1).toNat : Int) := by
  obtain ⟨h1, h2⟩ := hx
  obtain ⟨h3, h4⟩ := hy
  rw [IntKind.wrap_u64, IntKind.wrap_u64, IntKind.wrap_u64, IntKind.wrap_u64]; omega

set_option maxRecDepth 100000 in
set_option maxHeartbeats 1000000 in
theorem tbytes_any (S S' : Nat → Prop) (l : List (Int × Int)) (a : Option Addr) (cap : Nat) (p : List Int) (v : Value) (w : World) (hl : l.length < 1000000) (hp : p.length + 20 * l.length + 64 ≤ 140737488355328) (hasc : Asc l) (hwf : WfT l) (h : Row S w 2 l.length (.slice a l.length cap) (flat2 l)) (hv : ByV S' w p v) :
    Calls Try.prog 45 #[.agg #[.slice a l.length cap], v] w fun e w' => Below w.heap.size w w' ∧ ∃ v', e = .returned v' ∧ w'.ownsRow w.heap.size 5 1 v' (p ++ encT l).length (bV (p ++ encT l)) := by
  obtain ⟨i0, hi0, hz0, hz1, hz2⟩ := info_parts Try.info5
  have hcap : l.length ≤ cap := by obtain ⟨_, _, _, he, hc, _⟩ := h; cases he; exact hc
  have HLEN := Lib.hid (encL_len l none hwf hasc (fun q h => by cases h))
  have HR := Lib.hid h; clear h
  have HA := Lib.hid hasc; clear hasc
  have HW := Lib.hid hwf; clear hwf
  have hv2 := hv
  obtain ⟨pa, pc, rfl, _, hpl⟩ := hv2
  have HV := Lib.hid hv; clear hv
  have HPL := Lib.hid hpl; clear hpl
  have hcv : IntKind.u64.wrap (l.length : Int) = (l.length : Int) := by rw [IntKind.wrap_u64]; omega
  have HE := Lib.hid (encU_len l.length (by omega))
  go_enter Try.func45, Try.ntmps45
  go_wp2_with fail
  generalize hw2 : w.alloc (.cells #[.slice a l.length cap] 54) = w2
  have hm2 : More w w2 := by rw [← hw2]; exact World.grownBy_alloc _ _ _
  have x2 : w2.heap[w.heap.size]? = some (.cells #[.slice a l.length cap] 54) := by rw [← hw2]; exact alloc_last _ _
  clear hw2
  refine (putUint_nil l.length w2 (by omega)).mono ?_
  rintro e w3 ⟨hb3, g, gc, rfl, hby3⟩
  have hm3 := more_of hb3
  have x3 := (hm3.block (Array.getElem?_eq_some_iff.1 x2).1).trans x2
  clear hcv
  have HM3 := Lib.hid (more_trans hm2 hm3)
  have HBY3 := Lib.hid hby3
  have HU := Lib.hid (show encU l.length ++ encL none l = encT l from rfl)
  clear hm2 x2 hb3 hm3 hby3
  generalize encU l.length = E at *
  go_wp2_with fail
  generalize hw4 : w3.alloc (.cells #[.slice pa p.length pc, .slice (some ⟨g, 0, none⟩) E.length gc] 80) = w4
  have hm4 : More w3 w4 := by rw [← hw4]; exact World.grownBy_alloc _ _ _
  have y4 : w4.heap[w3.heap.size]? = some (.cells #[.slice pa p.length pc, .slice (some ⟨g, 0, none⟩) E.length gc] 80) := by rw [← hw4]; exact alloc_last _ _
  clear hw4
  have hc := concatB_any (fun _ => True) (fun _ => True) [p, E] [.slice pa p.length pc, .slice (some ⟨g, 0, none⟩) E.length gc] (.slice (some ⟨w3.heap.size, 0, none⟩) 2 2) w4 (show 2 < 1000 by decide) (by simp [sumB]; have := HE.out; omega) (row_blk y4 rfl rfl (Nat.le_refl _) trivial) (fun i hi => by
    rcases (show i = 0 ∨ i = 1 by have : i < 2 := hi; omega) with rfl | rfl
    · obtain ⟨a1, c1, e1, hr1, hp1⟩ := (HV.out.below (more_trans HM3.out hm4).below).mono (S' := fun _ => True) (fun _ _ => trivial)
      exact ⟨a1, c1, congrArg some e1, by show Row _ w4 1 p.length (.slice a1 p.length c1) (bV p); rw [← e1]; exact hr1, hp1.nil⟩
    · obtain ⟨a1, c1, e1, hr1, hp1⟩ := (HBY3.out.below hm4.below).mono (S' := fun _ => True) (fun _ _ => trivial)
      exact ⟨a1, c1, congrArg some e1, by show Row _ w4 1 E.length (.slice a1 E.length c1) (bV E); rw [← e1]; exact hr1, hp1.nil⟩)
  rw [show catB [p, E] = p ++ E by simp [catB]] at hc
  refine hc.mono ?_
  rintro e w5 ⟨hb5, v5, rfl, ho5⟩
  have hm5 := more_of hb5
  have x5 := ((more_trans hm4 hm5).block (Array.getElem?_eq_some_iff.1 x3).1).trans x3
  have HM5 := Lib.hid (more_trans HM3.out (more_trans hm4 hm5))
  have HO5 := Lib.hid (show w5.ownsRow w.heap.size 5 1 v5 (p ++ E).length (bV (p ++ E)) from owns_base ho5 (Nat.le_trans HM3.out.size hm4.size))
  have HX5 := Lib.hid x5
  have HNE5 := Lib.hid (show v5.ownBlock ≠ some w.heap.size from fun e => by have h1 := (ho5.lt _ e).1; have h2 := (Array.getElem?_eq_some_iff.1 x3).1; have h3 := hm4.size; omega)
  have g0 : w5.cell? ⟨w.heap.size, 0, none⟩ = some (.slice a l.length cap) := by simp [World.cell?, x5]
  clear hc hb5 ho5 hm5 x5 hm4 y4 x3
  have hs5 := cell_lt g0
  go_wp2_with fail
  go_loopw [5, 19] (fun o i wr => ∃ (j : Nat) (O : List Int), j ≤ l.length ∧ i = .int .i64 j ∧ Hid (O ++ encL (prevK l j) (l.drop j) = p ++ encT l) ∧ Hid (Below w.heap.size w wr) ∧ Hid (wr.heap[w.heap.size]? = some (.cells #[.slice a l.length cap] 54)) ∧ Hid (wr.ownsRow w.heap.size 5 1 o O.length (bV O) ∧ o.ownBlock ≠ some w.heap.size)) (fun _ i _ => l.length - (intOf i).toNat)
  case atStart => exact ⟨0, p ++ E, Nat.zero_le _, rfl, Lib.hid (by rw [List.append_assoc]; show p ++ (E ++ encL none l) = _; rw [HU.out]), Lib.hid HM5.out.below, HX5, Lib.hid ⟨HO5.out, HNE5.out⟩⟩
  case round =>
    clear g0 hs5
    obtain ⟨j, O, hj, rfl, HOE, HB, HX, HON⟩ := hrel
    have HO := Lib.hid HON.out.1
    have HNE := Lib.hid HON.out.2
    clear HON
    obtain ⟨oa, ocap, rfl, hoo⟩ := owns_shape HO.out
    have HOO := Lib.hid hoo; clear hoo
    have hOl : O.length + 40 ≤ 140737488355328 := by
      have h1 := congrArg List.length HOE.out
      rw [← HU.out] at h1
      simp only [List.length_append] at h1
      have := HLEN.out; have := HE.out
      omega
    by_cases hlt : j < l.length
    · obtain ⟨b, off, rfl, _, _, hc⟩ := HR.out.at (by omega)
      have hMW := more_of HB.out
      have g0 := hMW.cell (hc _ _ (flat2_get l j hlt).1)
      have g1 := hMW.cell (hc _ _ (flat2_get l j hlt).2)
      rw [← Nat.add_assoc] at g1
      have hbg := cell_lt g0
      have q0 : wr.cell? ⟨w.heap.size, 0, none⟩ = some (.slice (some ⟨b, off, none⟩) l.length cap) := by simp [World.cell?, HX.out]
      have hsq := cell_lt q0
      have HWX := Lib.hid (HW.out l[j] (List.getElem_mem _))
      have HDR := Lib.hid (List.drop_eq_getElem_cons hlt)
      cases j with
      | zero =>
        clear hc
        have HST := Lib.hid (show (O ++ encU (zz l[0].1)) ++ encU (zz l[0].2) ++ encL (prevK l (0 + 1)) (l.drop (0 + 1)) = p ++ encT l by
          rw [← HOE.out, HDR.out, show prevK l (0 + 1) = some l[0].1 from prevK_succ hlt, show prevK l 0 = none from rfl, encL]; simp only [List.append_assoc])
        rw [Nat.zero_mul, Nat.add_zero] at g0 g1
        generalize l[0] = x at *
        go_wp2_with fail
        have HI0 := Lib.hid (show BytsInv w.heap.size w wr.heap.size (.cells #[.int .i64 x.1, .int .i64 x.2] 151) O O.length (.slice oa O.length ocap) (wr.alloc (.cells #[.int .i64 x.1, .int .i64 x.2] 151)) from ⟨HB.out.alloc HB.out.size _, alloc_last _ _, HO.out.alloc _, fun e => by have := (HOO.out _ e).2; omega⟩)
        have HJ0 := Lib.hid (show BytsInv w.heap.size w w.heap.size (.cells #[.slice (some ⟨b, off, none⟩) l.length cap] 54) O O.length (.slice oa O.length ocap) (wr.alloc (.cells #[.int .i64 x.1, .int .i64 x.2] 151)) from ⟨HB.out.alloc HB.out.size _, (Below.heap_alloc _ _ _ hsq).trans HX.out, HO.out.alloc _, HNE.out⟩)
        generalize hwb : wr.alloc (.cells #[.int .i64 x.1, .int .i64 x.2] 151) = wb at *
        clear hwb
        refine (putInt_nil x.1 wb HWX.out.1).mono ?_
        have he6 := encU_pos (zz x.1)
        have hel6 := encU_len (zz x.1) (zz_lt HWX.out.1.1 HWX.out.1.2)
        generalize encU (zz x.1) = E6 at *
        rintro e w6 ⟨hb6, g6, c6, rfl, hby6⟩
        have HI6 := Lib.hid (HI0.out.more (Nat.le_refl _) (more_of hb6))
        have HJ6 := Lib.hid (HJ0.out.more (Nat.le_refl _) (more_of hb6))
        have HBY6 := Lib.hid hby6
        clear hb6 hby6 g0 g1 q0 HI0 HJ0
        have hmx6 : O.length + E6.length ≤ maxLen := by unfold maxLen; omega
        have hmy6 : (O.length + E6.length) * 1 ≤ 140737488355328 := by omega
        have hbs6 : w.heap.size ≤ w6.heap.size := HI6.out.size (Nat.le_refl _)
        go_wp2_with (at_builtin; refine wpList_append_lies _ rfl _ _ _ rfl w.heap.size 5 i0 _ 1 1 Try.underlying80 hi0 hz0 hz1 hz2 rfl (by omega) (.slice oa (O.length) ocap) (O.length) (bV O) rfl HI6.out.own ⟨g6, 0, none⟩ E6.length c6 (bV E6) rfl (bV_length1 E6) HBY6.out.news (bV_one E6) he6 hmx6 hmy6 hbs6 _ rfl ?_; intro gg6 cap6 wa6 hown6 hgrow6 hat6 hlt6; have HI7 := Lib.hid (HI6.out.app (Nat.le_refl _) hgrow6 hown6 hat6); have HJ7 := Lib.hid (HJ6.out.app (Nat.le_refl _) hgrow6 hown6 hat6); have k1 : wa6.cell? ⟨wr.heap.size, 1, none⟩ = some (.int .i64 x.2) := (by simp [World.cell?, HI7.out.box]); clear hown6 hgrow6 hat6 hlt6)
        refine (putInt_nil x.2 wa6 HWX.out.2).mono ?_
        have he8 := encU_pos (zz x.2)
        have hel8 := encU_len (zz x.2) (zz_lt HWX.out.2.1 HWX.out.2.2)
        generalize encU (zz x.2) = E8 at *
        rintro e w8 ⟨hb8, g8, c8, rfl, hby8⟩
        have HI8 := Lib.hid (HI7.out.more (Nat.le_refl _) (more_of hb8))
        have HJ8 := Lib.hid (HJ7.out.more (Nat.le_refl _) (more_of hb8))
        have HBY8 := Lib.hid hby8
        clear hb8 hby8 k1 HI7 HJ7
        have hmx8 : O.length + E6.length + E8.length ≤ maxLen := by unfold maxLen; omega
        have hmy8 : (O.length + E6.length + E8.length) * 1 ≤ 140737488355328 := by omega
        have hbs8 : w.heap.size ≤ w8.heap.size := HI8.out.size (Nat.le_refl _)
        go_wp2_with (at_builtin; refine wpList_append_lies _ rfl _ _ _ rfl w.heap.size 5 i0 _ 1 1 Try.underlying80 hi0 hz0 hz1 hz2 rfl (by omega) (.slice (some ⟨gg6, 0, none⟩) (O.length + E6.length) cap6) (O.length + E6.length) (bV (O ++ E6)) rfl HI8.out.own ⟨g8, 0, none⟩ E8.length c8 (bV E8) rfl (bV_length1 E8) HBY8.out.news (bV_one E8) he8 hmx8 hmy8 hbs8 _ rfl ?_; intro gg8 cap8 wa8 hown8 hgrow8 hat8 hlt8; have HJ9 := Lib.hid (HJ8.out.app (Nat.le_refl _) hgrow8 hown8 hat8); clear hown8 hgrow8 hat8 hlt8)
        have HOW9 := Lib.hid (show wa8.ownsRow w.heap.size 5 1 (.slice (some ⟨gg8, 0, none⟩) (O.length + E6.length + E8.length) cap8) (O ++ E6 ++ E8).length (bV (O ++ E6 ++ E8)) by rw [List.length_append, List.length_append]; exact HJ9.out.own)
        go_wp2_with fail
        go_roundw
        case rel => exact ⟨0 + 1, O ++ E6 ++ E8, by omega, by go_num, HST, Lib.hid HJ9.out.below, Lib.hid HJ9.out.box, Lib.hid ⟨HOW9.out, HJ9.out.ne⟩⟩
        case measure => simp [intOf]; omega
      | succ i =>
        have hi : i < l.length := by omega
        have pw : w.cell? ⟨b, off + i * 2, none⟩ = some (.int .i64 l[i].1) := hc _ _ (flat2_get l i hi).1
        have HPW := Lib.hid (show ∀ wx, Below w.heap.size w wx → wx.cell? ⟨b, off + i * 2, none⟩ = some (.int .i64 l[i].1) from fun wx hb => (hb.cell (p := ⟨b, off + i * 2, none⟩) (cell_lt pw)).trans pw)
        clear hc pw
        have HLT := Lib.hid (List.pairwise_iff_getElem.1 HA.out i (i + 1) hi hlt (by omega))
        have HWY := Lib.hid (HW.out l[i] (List.getElem_mem _))
        have HST := Lib.hid (show (O ++ encU (l[i + 1].1 - l[i].1 - 1).toNat) ++ encU (zz l[i + 1].2) ++ encL (prevK l (i + 1 + 1)) (l.drop (i + 1 + 1)) = p ++ encT l by
          rw [← HOE.out, HDR.out, show prevK l (i + 1 + 1) = some l[i + 1].1 from prevK_succ hlt, show prevK l (i + 1) = some l[i].1 from prevK_succ hi, encL]; simp only [List.append_assoc])
        generalize l[i + 1] = x at *
        generalize l[i] = y at *
        obtain ⟨U, hU, hUl⟩ : ∃ U : Nat, U = (x.1 - y.1 - 1).toNat ∧ U < 18446744073709551616 := ⟨_, rfl, by have := HWX.out.1.2; have := HWY.out.1.1; omega⟩
        have hws := wrap_sub HWX.out.1 HWY.out.1 HLT.out
        rw [← hU] at hws HST
        clear hU
        go_wp2_with fail
        have HI0 := Lib.hid (show BytsInv w.heap.size w wr.heap.size (.cells #[.int .i64 x.1, .int .i64 x.2] 151) O O.length (.slice oa O.length ocap) (wr.alloc (.cells #[.int .i64 x.1, .int .i64 x.2] 151)) from ⟨HB.out.alloc HB.out.size _, alloc_last _ _, HO.out.alloc _, fun e => by have := (HOO.out _ e).2; omega⟩)
        have HJ0 := Lib.hid (show BytsInv w.heap.size w w.heap.size (.cells #[.slice (some ⟨b, off, none⟩) l.length cap] 54) O O.length (.slice oa O.length ocap) (wr.alloc (.cells #[.int .i64 x.1, .int .i64 x.2] 151)) from ⟨HB.out.alloc HB.out.size _, (Below.heap_alloc _ _ _ hsq).trans HX.out, HO.out.alloc _, HNE.out⟩)
        generalize hwb : wr.alloc (.cells #[.int .i64 x.1, .int .i64 x.2] 151) = wb at *
        clear hwb
        have K0 := keep3 HI0.out.box HJ0.out.box (HPW.out wb HJ0.out.below)
        have hub := cell_lt K0.1
        have hub2 := cell_lt K0.2.1
        have HCALL := Lib.hid (putUint_nil U wb.drew hUl)
        have he6 := encU_pos U
        have hel6 := encU_len U hUl
        generalize encU U = E6 at *
        have hmx6 : O.length + E6.length ≤ maxLen := by unfold maxLen; omega
        have hmy6 : (O.length + E6.length) * 1 ≤ 140737488355328 := by omega
        have b1 : (0 : Int) ≤ (i : Int) := by omega
        have b2 : (i : Int) < (l.length : Int) := by omega
        clear g0 g1 q0 hbg hsq
        have wq : IntKind.i64.wrap (i : Int) = (i : Int) := by rw [IntKind.wrap_i64]; omega
        go_region_held3 (fun wx => wx.cell? ⟨wr.heap.size, 0, none⟩ = some (.int .i64 x.1) ∧ wx.cell? ⟨w.heap.size, 0, none⟩ = some (.slice (some ⟨b, off, none⟩) l.length cap) ∧ wx.cell? ⟨b, off + i * 2, none⟩ = some (.int .i64 y.1)) (first | with_reducible exact K0 | exact K0 | with_reducible exact K6 | with_reducible exact K7) (first | (go_at_call 84; refine (HCALL.out).mono ?_; rintro e w6 ⟨hb6, g6, c6, rfl, hby6⟩; have HI6 := Lib.hid (HI0.out.more (Nat.le_refl _) (more_trans (more_drew wb) (more_of hb6))); have HJ6 := Lib.hid (HJ0.out.more (Nat.le_refl _) (more_trans (more_drew wb) (more_of hb6))); have HBY6 := Lib.hid hby6; have hbs6 : w.heap.size ≤ w6.heap.size := HI6.out.size (Nat.le_refl _); have K6 := keep3 HI6.out.box HJ6.out.box (HPW.out w6 HJ6.out.below); clear hb6 hby6) | (refine step_append_lies _ (by rfl) _ _ _ (by rfl) w.heap.size 5 i0 _ 1 1 Try.underlying80 hi0 hz0 hz1 hz2 rfl (by omega) (.slice oa O.length ocap) O.length (bV O) (by rfl) HI6.out.own ⟨g6, 0, none⟩ E6.length c6 (bV E6) (by rfl) (bV_length1 E6) HBY6.out.news (bV_one E6) he6 hmx6 hmy6 hbs6 _ rfl ?_; intro gg6 cap6 wa6 hown6 hgrow6 hat6 hlt6; have HI7 := Lib.hid (HI6.out.app (Nat.le_refl _) hgrow6 hown6 hat6); have HJ7 := Lib.hid (HJ6.out.app (Nat.le_refl _) hgrow6 hown6 hat6); have k1 : wa6.cell? ⟨wr.heap.size, 1, none⟩ = some (.int .i64 x.2) := (by simp [World.cell?, HI7.out.box]); have K7 := keep3 HI7.out.box HJ7.out.box (HPW.out wa6 HJ7.out.below); clear hown6 hgrow6 hat6 hlt6))
        clear wq K0 K6 K7
        clear hws b1 b2 hub hub2
        go_wp2_with fail
        refine (putInt_nil x.2 wa6 HWX.out.2).mono ?_
        have he8 := encU_pos (zz x.2)
        have hel8 := encU_len (zz x.2) (zz_lt HWX.out.2.1 HWX.out.2.2)
        generalize encU (zz x.2) = E8 at *
        rintro e w8 ⟨hb8, g8, c8, rfl, hby8⟩
        have HI8 := Lib.hid (HI7.out.more (Nat.le_refl _) (more_of hb8))
        have HJ8 := Lib.hid (HJ7.out.more (Nat.le_refl _) (more_of hb8))
        have HBY8 := Lib.hid hby8
        clear hb8 hby8 k1 HI7 HJ7
        have hmx8 : O.length + E6.length + E8.length ≤ maxLen := by unfold maxLen; omega
        have hmy8 : (O.length + E6.length + E8.length) * 1 ≤ 140737488355328 := by omega
        have hbs8 : w.heap.size ≤ w8.heap.size := HI8.out.size (Nat.le_refl _)
        go_wp2_with (at_builtin; refine wpList_append_lies _ rfl _ _ _ rfl w.heap.size 5 i0 _ 1 1 Try.underlying80 hi0 hz0 hz1 hz2 rfl (by omega) (.slice (some ⟨gg6, 0, none⟩) (O.length + E6.length) cap6) (O.length + E6.length) (bV (O ++ E6)) rfl HI8.out.own ⟨g8, 0, none⟩ E8.length c8 (bV E8) rfl (bV_length1 E8) HBY8.out.news (bV_one E8) he8 hmx8 hmy8 hbs8 _ rfl ?_; intro gg8 cap8 wa8 hown8 hgrow8 hat8 hlt8; have HJ9 := Lib.hid (HJ8.out.app (Nat.le_refl _) hgrow8 hown8 hat8); clear hown8 hgrow8 hat8 hlt8)
        have HOW9 := Lib.hid (show wa8.ownsRow w.heap.size 5 1 (.slice (some ⟨gg8, 0, none⟩) (O.length + E6.length + E8.length) cap8) (O ++ E6 ++ E8).length (bV (O ++ E6 ++ E8)) by rw [List.length_append, List.length_append]; exact HJ9.out.own)
        go_wp2_with fail
        go_roundw
        case rel => exact ⟨i + 1 + 1, O ++ E6 ++ E8, by omega, by go_num, HST, Lib.hid HJ9.out.below, Lib.hid HJ9.out.box, Lib.hid ⟨HOW9.out, HJ9.out.ne⟩⟩
        case measure => simp [intOf]; omega
    · have HF := Lib.hid (show O = p ++ encT l by rw [← HOE.out, List.drop_of_length_le (by omega)]; cases prevK l j <;> simp [encL])
      go_wp2_with fail
      go_ret
      exact ⟨HB.out, _, rfl, by rw [← HF.out]; exact HO.out⟩
end Go.Proofs.Ytekhoanjpnjaeaa
