/- Texts SortF, Shr, DegM, ShelfA, Degs, EqS, SortK, BitL, GenC, AppG, laid together. -/
import Derived.Shelf.SlSortCmp.NoneTotal
import Derived.Maps.RangeWalk
import Derived.Shelf.SlGeneric
import Derived.Shelf.Bits.Mul64
import Derived.Ground.SlsfProg
import Derived.Laws.MakeOwn
import Derived.Deep.RegionHeld3
import Derived.Deep.DeepCutAuto
import Derived.Test.YtemeppfikpafbaaGreatDoorBa
/- slices.SortFunc at a row of the call's own, of structs of k cells: the shelf's contract in this seat's words. -/
namespace Go.Proofs.YtemeppfikpafbaaGreatDoor
open Go.RowKit Go.Sort Go.Shelf Go.Lib
theorem Lay.grow {w w' : World} (h : Lay w w') : ∃ q os, w' = grow (w.drewN q) os := by
  obtain ⟨⟨h1, h2, h3, h4, h5⟩, hd⟩ := h
  refine ⟨w'.drawn - w.drawn, w'.heap.extract w.heap.size w'.heap.size, ?_⟩
  obtain ⟨heap, tape, drawn, os, output⟩ := w
  obtain ⟨heap', tape', drawn', os', output'⟩ := w'
  simp only at h1 h2 h3 h4 h5 hd
  subst h1 h2 h3
  unfold Sort.grow World.drewN
  simp only [World.mk.injEq, true_and, and_true]
  refine ⟨?_, by omega⟩
  apply Array.ext_getElem?
  intro i
  by_cases hi : i < heap.size
  · rw [Array.getElem?_append_left hi]; exact h5 i hi (by simp)
  · rw [Array.getElem?_append_right (by omega), Array.getElem?_extract]
    by_cases hi' : i < heap'.size
    · rw [if_pos (by omega), show heap.size + (i - heap.size) = i by omega]
    · rw [if_neg (by omega), Array.getElem?_eq_none (by omega)]
section
variable {α : Type} [Inhabited α] {enc : α → List Value} {k : Nat}
theorem flatK_list (hk : ∀ x, (enc x).length = k) (hk0 : 0 < k) (l : List α) : (flatK enc k l.toArray).toList = flatC enc l := by
  apply List.ext_getElem?
  intro t
  by_cases ht : t < l.length * k
  · have hq : t / k < l.length := (Nat.div_lt_iff_lt_mul hk0).2 ht
    have hr : t % k < k := Nat.mod_lt _ hk0
    have hu : (enc l[t / k])[t % k]? = some ((enc l[t / k])[t % k]'(by rw [hk]; exact hr)) := List.getElem?_eq_getElem _
    have h1 := flatC_get hk l (t / k) hq (t % k) _ hu
    rw [Nat.div_add_mod'] at h1
    rw [h1, Array.getElem?_toList, Array.getElem?_eq_getElem (by simpa using ht)]
    have h2 := get_flatK enc k l.toArray t (by simpa using ht)
    rw [getElem!_pos _ t (by simpa using ht)] at h2
    rw [h2]
    have e1 : l.toArray[t / k]! = l[t / k] := by rw [getElem!_pos _ _ (by simpa using hq)]; simp
    rw [e1]
    congr 1
    exact getElem!_pos _ _ (by rw [hk]; exact hr)
  · rw [List.getElem?_eq_none (by simp; omega), List.getElem?_eq_none (by rw [flatC_len hk]; omega)]
theorem holdsK_of {w : World} {g : Nat} {cur : Array Value} {e : TypeId} {l : List α} (hk : ∀ x, (enc x).length = k) (hk0 : 0 < k) (hb : w.heap[g]? = some (.cells cur e (0, 0))) (ht : cur.toList.take (l.length * k) = flatC enc l) : HoldsK enc k w g 0 l.toArray := by
  intro j hj
  have hj' : j < l.length * k := by simpa using hj
  refine ⟨?_, by simp [World.frozen?, hb]⟩
  have h1 : (cur.toList.take (l.length * k))[j]? = (flatC enc l)[j]? := by rw [ht]
  rw [List.getElem?_take_of_lt hj', ← flatK_list hk hk0] at h1
  simp only [World.cell?, hb, Nat.zero_add]
  simp only [Option.isSome_none, Bool.false_eq_true, if_false]
  rw [← Array.getElem?_toList, h1, Array.getElem?_toList, Array.getElem?_eq_getElem hj, getElem!_pos _ j hj]
  rfl
theorem heapK_sorted {w : World} {g n : Nat} {os : Array Obj} {cur : Array Value} {e : TypeId} {fr : Nat × Nat} (d : Array Value) (hb : w.heap[g]? = some (.cells cur e fr)) :
    (Sort.grow (putRow id (Sort.ahead w n) g 0 d) os).heap[g]? = some (.cells (putCells id 0 d cur) e fr) := by
  have hg : g < w.heap.size := (Array.getElem?_eq_some_iff.1 hb).1
  rw [heap_grow_old _ _ (by simpa using hg)]
  simp [putRow, mapBlock, Sort.ahead, Array.getElem?_modify, hb, onCells]
theorem grownK_sorted {w : World} {g n : Nat} {os : Array Obj} (d : Array Value) : w.grownBy (Sort.grow (putRow id (Sort.ahead w n) g 0 d) os) (some g) := by
  refine ⟨rfl, rfl, rfl, by simp, fun k hk hne => ?_⟩
  rw [heap_grow_old _ _ (by simpa using hk)]
  have : g ≠ k := fun e => hne (by rw [e])
  simp [putRow, mapBlock, Sort.ahead, Array.getElem?_modify, this]
theorem takeK_put (cur : Array Value) (d : Array Value) (h : d.size ≤ cur.size) : (putCells id 0 d cur).toList.take d.size = d.toList := by
  apply List.ext_getElem?
  intro j
  by_cases hj : j < d.size
  · rw [List.getElem?_take_of_lt hj, Array.getElem?_toList]
    simp [putCells, hj, show j < cur.size by omega]
  · rw [List.getElem?_take_eq_none (by omega), List.getElem?_eq_none (by simp; omega)]
variable {ρ : Ren}
/-- The comparison, in whatever world. -/
def CmpSaid (g : Nat) (enc : α → List Value) (cf : α → α → Int) : Prop := ∀ (x y : α) (W : World), Calls Tryz.prog g #[.agg (enc x).toArray, .agg (enc y).toArray] W fun e w' => e = .returned (.int .i64 (cf x y)) ∧ Lay W w'
/-- WHAT THE ROW HOLDS BEHIND slices.SortFunc, under a comparison that parts whatever two that are not one. -/
theorem sortF (L : SlLaysF0.n6 Tryz.prog ρ) (aE : ∀ w, (isAgg (ρ.t 24)).run Tryz.prog w = .ok true w) (zE : ∀ w, (Go.sizeOf (ρ.t 24)).run Tryz.prog w = .ok k w) (hk : ∀ x, (enc x).length = k) (hk0 : 0 < k) (h1 : ∀ x, ∀ v ∈ enc x, v.oneCell' = true) (cf : α → α → Int) (hO : SWO (ltOf cf)) (hT : ∀ x y, (ltOf cf) x y = false → (ltOf cf) y x = false → x = y) (g : Nat)
    (eg : ∀ args w, (callFunc g args).run Tryz.prog w = .ok (.enter g args) w) (hcmp : CmpSaid g enc cf) (l : List α) (v : Value) (B : Nat) (E : TypeId) (w : World) (hl : l.length < 4611686018427387904) (hown : w.ownsRow B E k v l.length (flatC enc l)) :
    Calls Tryz.prog (ρ.f 6) #[v, .func (.func g) #[] #[]] w fun e w' => e = .returned (.tuple #[]) ∧ w.grownBy w' v.ownBlock ∧ w'.ownsRow B E k v l.length (flatC enc (l.mergeSort fun x y => !(ltOf cf) y x)) := by
  obtain ⟨hlen, h0 | ⟨b, cap, cur, rfl, hB, hb, hnc, hcm, hcs, ht⟩⟩ := hown
  · obtain ⟨rfl, hn⟩ := h0
    obtain rfl : l = [] := List.eq_nil_of_length_eq_zero hn
    refine (AnyF.slices_SortFunc_none (P := Tryz.prog) (ρ := ρ) L none 0 _ w).mono ?_
    rintro e w' ⟨rfl, rfl⟩
    exact ⟨rfl, World.grownBy.refl _ _, by simp [flatC]; exact World.ownsRow_nil _ _ _ _⟩
  · have ht' : cur.toList.take (l.length * k) = flatC enc l := ht
    have hH := holdsK_of hk hk0 hb ht'
    have hblk : b < w.heap.size := (Array.getElem?_eq_some_iff.1 hb).1
    have hC : CmpLays Tryz.prog g #[] enc k cf b 0 l.toArray.size w := fun m os dk _ x y => by
      refine (hcmp x y _).mono ?_
      rintro e w' ⟨he, hlay⟩
      exact ⟨he, hlay.grow⟩
    have h := AnyQ.slices_SortFunc_total L k aE zE enc hk h1 cf hO g #[] b 0 cap l.toArray w eg hC hH hblk (by simpa using hl) hT
    rw [List.size_toArray] at h
    refine h.mono ?_
    rintro e w' ⟨rfl, n, os, rfl⟩
    have hms : (l.mergeSort fun x y => !(ltOf cf) y x).length = l.length := List.length_mergeSort _
    refine ⟨rfl, grownK_sorted _, ⟨by rw [flatC_len hk, hms], Or.inr ⟨b, cap, _, rfl, hB, heapK_sorted _ hb, hnc, hcm, by simpa [putCells] using hcs, ?_⟩⟩⟩
    have hfs : (flatK enc k (l.mergeSort fun x y => !(ltOf cf) y x).toArray).size = l.length * k := by simp [hms]
    have := takeK_put cur (flatK enc k (l.mergeSort fun x y => !(ltOf cf) y x).toArray) (by rw [hfs, hcs]; exact Nat.mul_le_mul_right _ hnc)
    rw [hfs, flatK_list hk hk0] at this
    exact this
end
end Go.Proofs.YtemeppfikpafbaaGreatDoor

/- Shares: the comparison of rank.Degrees (67). -/
namespace Go.Proofs.YtemeppfikpafbaaGreatDoor
open Go.RowKit Go.Sort Go.Shelf
/-- Two boxes of shares. -/
structure SBox (w : World) (b : Nat) (k : K4) (p q : Int) : Prop where
  c0 : w.cell? ⟨b, 0, none⟩ = some (.int .u8 k.kind)
  c1 : w.cell? ⟨b, 1, none⟩ = some (.int .i64 k.a)
  c2 : w.cell? ⟨b, 2, none⟩ = some (.int .i64 k.b)
  c3 : w.cell? ⟨b, 3, none⟩ = some (.int .i64 k.n)
  c4 : w.cell? ⟨b, 4, none⟩ = some (.int .i64 p)
  c5 : w.cell? ⟨b, 5, none⟩ = some (.int .i64 q)
theorem SBox.lay {w w' : World} {b : Nat} {k : K4} {p q : Int} (h : SBox w b k p q) (hl : Lay w w') : SBox w' b k p q := ⟨hl.1.cell h.c0, hl.1.cell h.c1, hl.1.cell h.c2, hl.1.cell h.c3, hl.1.cell h.c4, hl.1.cell h.c5⟩
end Go.Proofs.YtemeppfikpafbaaGreatDoor

/- Lists of causes in memory; maps from keys to degrees. -/
namespace Go.Proofs.YtemeppfikpafbaaGreatDoor
open Go.RowKit Go.Maps
def anyB : Nat → Prop := fun _ => True
/-- The slice v is a list of causes. -/
def pC (p : Value × Value) : List Value := [p.1, p.2]
theorem pC_len (p : Value × Value) : (pC p).length = 2 := rfl
def CRow (w : World) (l : List Cau) (v : Value) : Prop :=
  ∃ vs : List (Value × Value), vs.length = l.length ∧ Row anyB w 2 l.length v (flatC pC vs) ∧ ∀ (i : Nat) (h : i < l.length) (h' : i < vs.length), (Row anyB w 4 l[i].undo.length vs[i].1 (flatC kC l[i].undo) ∧ Row anyB w 3 l[i].hold.length vs[i].2 (flatC mC l[i].hold)) ∧ (∀ n c, (vs[i].1 = .slice none n c → c = 0) ∧ (vs[i].2 = .slice none n c → c = 0))
theorem CRow.below {w w' : World} {l : List Cau} {v : Value} (hB : Below w.heap.size w w') (h : CRow w l v) : CRow w' l v := by
  obtain ⟨vs, h1, h2, h3⟩ := h
  exact ⟨vs, h1, h2.below hB, fun i a b => ⟨⟨(h3 i a b).1.1.below hB, (h3 i a b).1.2.below hB⟩, (h3 i a b).2⟩⟩
theorem CRow.shape {w : World} {l : List Cau} {v : Value} (h : CRow w l v) : ∃ a cap, v = .slice a l.length cap ∧ l.length ≤ cap := by
  obtain ⟨vs, h1, h2, h3⟩ := h
  obtain ⟨a, cap, rfl, hc⟩ := h2.shape
  exact ⟨a, cap, rfl, hc⟩
/-- The cause at a place. -/
theorem CRow.at' {w : World} {l : List Cau} {a : Option Addr} {len cap : Nat} (h : CRow w l (.slice a len cap)) {i : Nat} (hi : i < l.length) :
    ∃ b off ua uc ha hc, a = some ⟨b, off, none⟩ ∧ w.cell? ⟨b, off + i * 2, none⟩ = some (.slice ua l[i].undo.length uc) ∧ w.cell? ⟨b, off + i * 2 + 1, none⟩ = some (.slice ha l[i].hold.length hc)
      ∧ Row anyB w 4 l[i].undo.length (.slice ua l[i].undo.length uc) (flatC kC l[i].undo) ∧ Row anyB w 3 l[i].hold.length (.slice ha l[i].hold.length hc) (flatC mC l[i].hold) ∧ (ua = none → uc = 0) ∧ (ha = none → hc = 0) := by
  obtain ⟨vs, h1, h2, h3⟩ := h
  have hi' : i < vs.length := by omega
  rw [← h1] at h2
  obtain ⟨b, off, rfl, _, hc⟩ := h2.atC pC_len hi'
  obtain ⟨⟨hu, hh⟩, hnz⟩ := h3 i hi hi'
  obtain ⟨ua, uc, eu, _⟩ := hu.shape
  obtain ⟨ha, hcp, eh, _⟩ := hh.shape
  have g0 := hc 0 vs[i].1 rfl
  have g1 := hc 1 vs[i].2 rfl
  rw [eu] at hu g0
  rw [eh] at hh g1
  rw [Nat.add_zero] at g0
  exact ⟨b, off, ua, uc, ha, hcp, rfl, g0, g1, hu, hh, fun e => (hnz _ uc).1 (by rw [eu, e]), fun e => (hnz _ hcp).2 (by rw [eh, e])⟩
theorem CRow.at {w : World} {l : List Cau} {a : Option Addr} {len cap : Nat} (h : CRow w l (.slice a len cap)) {i : Nat} (hi : i < l.length) :
    ∃ b off ua uc ha hc, a = some ⟨b, off, none⟩ ∧ w.cell? ⟨b, off + i * 2, none⟩ = some (.slice ua l[i].undo.length uc) ∧ w.cell? ⟨b, off + i * 2 + 1, none⟩ = some (.slice ha l[i].hold.length hc)
      ∧ Row anyB w 4 l[i].undo.length (.slice ua l[i].undo.length uc) (flatC kC l[i].undo) ∧ Row anyB w 3 l[i].hold.length (.slice ha l[i].hold.length hc) (flatC mC l[i].hold) := by
  obtain ⟨b, off, ua, uc, ha, hc, h1, h2, h3, h4, h5, _⟩ := h.at' hi
  exact ⟨b, off, ua, uc, ha, hc, h1, h2, h3, h4, h5⟩
/-- Degrees as elements of a map. -/
def ratD (p : Int × Int) : DataW Unit := .agg [.lit (.int .i64 p.1), .lit (.int .i64 p.2)]
def ratElem (v : Value) : Option (DataW Unit × List MemPlace) :=
  match v with
  | .agg ⟨[.int .i64 p, .int .i64 q]⟩ => some (ratD (p, q), [])
  | _ => none
def degV (n : Nat) : Int × Int := if n = 0 then (0, 0) else degR n
theorem degV_pos {n : Nat} (h : 0 < n) : degV n = degR n := by unfold degV; rw [if_neg (by omega)]
theorem sameK {x y : K4} (hx : x.Ok) (hy : y.Ok) : (kL x).sameKey (kL y) = decide (x = y) := by
  by_cases h : x = y
  · subst h
    rw [decide_eq_true rfl]
    simp [kL, Lit.sameKey]
  · rw [decide_eq_false h]
    exact sameKey_ne (fun e => h (kL_inj hx hy e))
/-- Block b is a map from keys to the degrees f (0: the key is not in it). -/
def DegM (w : World) (b m : Nat) (f : K4 → Nat) : Prop :=
  ∃ n D, w.ownsMap (H := Unit) Tryz.prog 53 ratElem b n D ∧ n ≤ m ∧ (∀ x : K4, x.Ok → D.atKey (kL x) (ratD (0, 0)) = ratD (degV (f x))) ∧ (∀ kl, has D kl = true → ∃ x : K4, x.Ok ∧ kl = kL x ∧ 0 < f x) ∧ (∀ x : K4, x.Ok → 0 < f x → has D (kL x) = true)
theorem DegM.keep {w w' : World} {b m : Nat} {f : K4 → Nat} (h : DegM w b m f) (hb : w'.heap[b]? = w.heap[b]?) : DegM w' b m f := by
  obtain ⟨n, D, ⟨es, clock, h1, h2⟩, h3⟩ := h
  exact ⟨n, D, ⟨es, clock, hb.trans h1, h2⟩, h3⟩
theorem DegM.lt {w : World} {b m : Nat} {f : K4 → Nat} (h : DegM w b m f) : b < w.heap.size := by
  obtain ⟨n, D, ho, _⟩ := h
  exact ho.lt
theorem DegM.start (w : World) : DegM (w.alloc (.map #[] 0)) w.heap.size 0 (fun _ => 0) :=
  ⟨0, .map [], World.ownsMap_made w _ _ _, Nat.le_refl _, fun x _ => rfl, fun kl h => by simp [has_eq] at h, fun x _ h => absurd h (by simp)⟩
theorem DegM.put {w w' : World} {b n m : Nat} {f : K4 → Nat} {D : DataW Unit} {x : K4} {s : Nat} (ho : w.ownsMap (H := Unit) Tryz.prog 53 ratElem b n D) (hx : x.Ok) (hs : 0 < s) (hn : n ≤ m)
    (ha : ∀ x : K4, x.Ok → D.atKey (kL x) (ratD (0, 0)) = ratD (degV (f x))) (hb : ∀ kl, has D kl = true → ∃ x : K4, x.Ok ∧ kl = kL x ∧ 0 < f x) (hc : ∀ x : K4, x.Ok → 0 < f x → has D (kL x) = true)
    (h : w'.ownsMap (H := Unit) Tryz.prog 53 ratElem b (n + 1) (D.put (kL x) (ratD (degR s)))) : DegM w' b (m + 1) (fun y => if y = x then s else f y) := by
  refine ⟨n + 1, _, h, by omega, fun y hy => ?_, fun kl hkl => ?_, fun y hy hp => ?_⟩
  · by_cases e : y = x
    · subst e
      rw [atKey_put_same ho.isMap (show WideAt.IsKeyLit (kL y) from trivial)]
      simp only [if_true]
      rw [degV_pos hs]
    · have hne : kL y ≠ kL x := fun he => e (kL_inj hy hx he)
      dsimp only
      rw [atKey_put_other hne, if_neg e]
      exact ha y hy
  · by_cases e : kl = kL x
    · exact ⟨x, hx, e, by simpa using hs⟩
    · rw [has_put_other e] at hkl
      obtain ⟨y, hy, rfl, hp⟩ := hb kl hkl
      refine ⟨y, hy, rfl, ?_⟩
      dsimp only
      rw [if_neg (fun (e' : y = x) => e (by rw [e']))]
      exact hp
  · by_cases e : y = x
    · subst e
      exact has_put_same ho.isMap (show WideAt.IsKeyLit (kL y) from trivial) _
    · dsimp only at hp
      rw [if_neg e] at hp
      have hne : kL y ≠ kL x := fun he => e (kL_inj hy hx he)
      rw [has_put_other hne]
      exact hc y hy hp
end Go.Proofs.YtemeppfikpafbaaGreatDoor

/-
  DERIVED: THE SHELF's CONTRACTS AT THIS DUMP, IN PLAIN WORDS (tools/lay-plain.mjs out of 'TryShelfA.lean', which tools/lay-shelf.mjs wrote): THE SAME DECLARATIONS UNDER THE SAME NAMES: 'import', 'namespace', 'open', 'def', 'theorem' AND NOTHING ELSE: no command of the shelf's: FOR A HAND-IN. Each laying: the table of numbers ('.._ren') and one theorem, a field a fact of the dump's own or the kernel's comparison; each contract: ONE APPLICATION.
-/
namespace Go.Proofs
open Go.Shelf
def Tryz.sortChoice_ren : Go.Shelf.Ren := ⟨fun | 6 => 45 | 15 => 77 | 14 => 76 | 28 => 94 | 29 => 95 | 20 => 86 | 21 => 87 | 22 => 88 | 23 => 89 | 24 => 90 | 25 => 91 | 26 => 92 | 27 => 93 | 46 => 106 | 47 => 107 | 48 => 108 | 49 => 109 | 50 => 110 | 57 => 114 | n => n, fun | 22 => 23 | 24 => 58 | 25 => 98 | 3 => 3 | 39 => 113 | 0 => 0 | 53 => 108 | 55 => 76 | 4 => 4 | 46 => 148 | 45 => 147 | 50 => 138 | 5 => 5 | 9 => 9 | 66 => 169 | 70 => 142 | 76 => 175 | 77 => 176 | n => n, fun | n => n⟩
theorem Tryz.sortChoice : Go.Proofs.SlLaysF0.n6 Tryz.prog Tryz.sortChoice_ren := {
  mixed := by kernel_rfl
  f6 := ⟨Tryz.f45.name, by decide, Tryz.func45.trans (congrArg some (by kernel_rfl))⟩
  f14 := ⟨Tryz.f76.name, by decide, Tryz.func76.trans (congrArg some (by kernel_rfl))⟩
  f15 := Tryz.func77.trans (congrArg some (by kernel_rfl))
  f20 := ⟨Tryz.f86.name, by decide, Tryz.func86.trans (congrArg some (by kernel_rfl))⟩
  f21 := ⟨Tryz.f87.name, by decide, Tryz.func87.trans (congrArg some (by kernel_rfl))⟩
  f22 := ⟨Tryz.f88.name, by decide, Tryz.func88.trans (congrArg some (by kernel_rfl))⟩
  f23 := ⟨Tryz.f89.name, by decide, Tryz.func89.trans (congrArg some (by kernel_rfl))⟩
  f24 := ⟨Tryz.f90.name, by decide, Tryz.func90.trans (congrArg some (by kernel_rfl))⟩
  f25 := ⟨Tryz.f91.name, by decide, Tryz.func91.trans (congrArg some (by kernel_rfl))⟩
  f26 := ⟨Tryz.f92.name, by decide, Tryz.func92.trans (congrArg some (by kernel_rfl))⟩
  f27 := ⟨Tryz.f93.name, by decide, Tryz.func93.trans (congrArg some (by kernel_rfl))⟩
  f28 := Tryz.func94.trans (congrArg some (by kernel_rfl))
  f29 := Tryz.func95.trans (congrArg some (by kernel_rfl))
  f46 := ⟨Tryz.f106.name, by decide, Tryz.func106.trans (congrArg some (by kernel_rfl))⟩
  f47 := Tryz.func107.trans (congrArg some (by kernel_rfl))
  f48 := Tryz.func108.trans (congrArg some (by kernel_rfl))
  f49 := ⟨Tryz.f109.name, by decide, Tryz.func109.trans (congrArg some (by kernel_rfl))⟩
  f50 := ⟨Tryz.f110.name, by decide, Tryz.func110.trans (congrArg some (by kernel_rfl))⟩
  f57 := ⟨Tryz.f114.name, by decide, Tryz.func114.trans (congrArg some (by kernel_rfl))⟩
  t0 := Tryz.underlying0
  a0 := Tryz.isAgg0
  z0 := Tryz.sizeOf0
  v0 := Tryz.zeroValue0
  t3 := Tryz.underlying3
  a3 := Tryz.isAgg3
  z3 := Tryz.sizeOf3
  v3 := Tryz.zeroValue3
  t4 := Tryz.underlying4
  a4 := Tryz.isAgg4
  z4 := Tryz.sizeOf4
  v4 := Tryz.zeroValue4
  t5 := Tryz.underlying5
  a5 := Tryz.isAgg5
  z5 := Tryz.sizeOf5
  v5 := Tryz.zeroValue5
  t9 := Tryz.underlying9
  a9 := Tryz.isAgg9
  z9 := Tryz.sizeOf9
  v9 := Tryz.zeroValue9
  t22 := Tryz.underlying23
  a22 := Tryz.isAgg23
  z22 := Tryz.sizeOf23
  v22 := Tryz.zeroValue23
  t25 := Tryz.underlying98
  a25 := Tryz.isAgg98
  z25 := Tryz.sizeOf98
  v25 := Tryz.zeroValue98
  t39 := Tryz.underlying113
  a39 := Tryz.isAgg113
  z39 := Tryz.sizeOf113
  v39 := Tryz.zeroValue113
  t45 := Tryz.underlying147
  a45 := Tryz.isAgg147
  z45 := Tryz.sizeOf147
  v45 := Tryz.zeroValue147
  t46 := Tryz.underlying148
  a46 := Tryz.isAgg148
  z46 := Tryz.sizeOf148
  v46 := Tryz.zeroValue148
  t50 := Tryz.underlying138
  a50 := Tryz.isAgg138
  z50 := Tryz.sizeOf138
  v50 := Tryz.zeroValue138
  t53 := Tryz.underlying108
  a53 := Tryz.isAgg108
  z53 := Tryz.sizeOf108
  v53 := Tryz.zeroValue108
  t55 := Tryz.underlying76
  a55 := Tryz.isAgg76
  z55 := Tryz.sizeOf76
  v55 := Tryz.zeroValue76
  t66 := Tryz.underlying169
  a66 := Tryz.isAgg169
  z66 := Tryz.sizeOf169
  v66 := Tryz.zeroValue169
  t70 := Tryz.underlying142
  a70 := Tryz.isAgg142
  z70 := Tryz.sizeOf142
  v70 := Tryz.zeroValue142
  t76 := Tryz.underlying175
  a76 := Tryz.isAgg175
  z76 := Tryz.sizeOf175
  v76 := Tryz.zeroValue175
  t77 := Tryz.underlying176
  a77 := Tryz.isAgg176
  z77 := Tryz.sizeOf176
  v77 := Tryz.zeroValue176 }
end Go.Proofs

/- rank.Degrees (26). -/
namespace Go.Proofs.YtemeppfikpafbaaGreatDoor
open Go.RowKit Go.Maps Go.Sort Go.Shelf
/-- Collected shares of the keys that are not left. -/
def Coll (f : K4 → Nat) (D : DataW Unit) (left : Lit → Bool) (acc : List Shr) : Prop :=
  (acc.map Prod.fst).Nodup ∧ (∀ s ∈ acc, s.1.Ok ∧ 0 < f s.1 ∧ s.2.val = f s.1) ∧ (∀ x : K4, x.Ok → 0 < f x → left (kL x) = false → x ∈ acc.map Prod.fst) ∧ (∀ s ∈ acc, left (kL s.1) = false) ∧ (∀ kl, left kl = true → has D kl = true)
theorem Coll.start {f : K4 → Nat} {D : DataW Unit} (hc : ∀ x : K4, x.Ok → 0 < f x → has D (kL x) = true) : Coll f D (has D) [] :=
  ⟨by simp, by simp, fun x hx hp h => absurd h (by rw [hc x hx hp]; simp), by simp, fun _ h => h⟩
theorem Coll.step {f : K4 → Nat} {D : DataW Unit} {left : Lit → Bool} {acc : List Shr} {x : K4} {m : Fin 1001} (h : Coll f D left acc) (hx : x.Ok) (hp : 0 < f x) (hm : m.val = f x) (hl : left (kL x) = true) : Coll f D (fun z => left z && !z.sameKey (kL x)) (acc ++ [(x, m)]) := by
  obtain ⟨h1, h2, h3, h4, h5⟩ := h
  refine ⟨?_, fun s hs => ?_, fun y hy hpy hly => ?_, fun s hs => ?_, fun kl hkl => ?_⟩
  · rw [List.map_append, List.nodup_append]
    refine ⟨h1, by simp, fun a ha b hb e => ?_⟩
    simp at hb
    subst hb
    subst e
    obtain ⟨s, hs, rfl⟩ := List.mem_map.1 ha
    rw [h4 s hs] at hl; cases hl
  · rcases List.mem_append.1 hs with hs | hs
    · exact h2 s hs
    · rw [List.mem_singleton] at hs; subst hs; exact ⟨hx, hp, hm⟩
  · rw [List.map_append, List.mem_append]
    by_cases e : y = x
    · right; simp [e]
    · left
      refine h3 y hy hpy ?_
      dsimp only at hly
      rw [sameK hy hx, decide_eq_false e] at hly
      simpa using hly
  · rcases List.mem_append.1 hs with hs | hs
    · simp only [h4 s hs, Bool.false_and]
    · rw [List.mem_singleton] at hs; subst hs
      simp only [sameK hx hx]
      simp
  · simp only [Bool.and_eq_true] at hkl
    exact h5 kl hkl.1
/-- All collected, sorted: the shares. -/
theorem Coll.shares {l : List Cau} (hok : ∀ c ∈ l, c.Ok) {D : DataW Unit} {left : Lit → Bool} {acc : List Shr} (h : Coll (fun k => jointN l [k]) D left acc) (hl : ∀ kl, left kl = false) : IsShares l ((acc.mergeSort fun x y => !(ltOf cfS) y x).map shN) := by
  obtain ⟨h1, h2, h3, _, _⟩ := h
  have hn : acc.Nodup := List.Pairwise.of_map (S := fun a b => a ≠ b) Prod.fst (fun a b hab e => hab (by rw [e])) h1
  have hp : ∀ s, s ∈ acc.mergeSort (fun x y => !(ltOf cfS) y x) ↔ s ∈ acc := fun s => (List.mergeSort_perm acc _).mem_iff
  refine ⟨List.pairwise_map.2 (cfS_by.sorted acc hn), fun x => ?_⟩
  rw [List.mem_map]
  constructor
  · rintro ⟨s, hs, rfl⟩
    obtain ⟨_, a, b⟩ := h2 s ((hp s).1 hs)
    exact ⟨a, b⟩
  · rintro ⟨a, b⟩
    obtain ⟨c, hc, hk⟩ := jointN_pos.1 a
    obtain ⟨s, hs, hsx⟩ := List.mem_map.1 (h3 x.1 ((hok c hc).undo _ hk) a (hl _))
    refine ⟨s, (hp s).2 hs, ?_⟩
    obtain ⟨_, _, d⟩ := h2 s hs
    unfold shN
    rw [d, hsx]
    exact Prod.ext rfl b.symm
end Go.Proofs.YtemeppfikpafbaaGreatDoor

/- '==' of keys, messages and degrees, as run equations. -/
namespace Go.Proofs.YtemeppfikpafbaaGreatDoor
open Go.RowKit
theorem run_eqK (x y : K4) (w : World) : (binOp .eql 53 (.agg #[.int .u8 x.kind, .int .i64 x.a, .int .i64 x.b, .int .i64 x.n]) (.agg #[.int .u8 y.kind, .int .i64 y.a, .int .i64 y.b, .int .i64 y.n])).run Tryz.prog w = .ok (.bool (decide (x = y))) w := by
  have e : decide (x = y) = (decide (x.kind = y.kind) && (decide (x.a = y.a) && (decide (x.b = y.b) && decide (x.n = y.n)))) := by
    rw [Bool.eq_iff_iff]
    obtain ⟨a, b, c, d⟩ := x
    obtain ⟨a', b', c', d'⟩ := y
    simp
  rw [e]
  go_simp
  by_cases h1 : x.kind = y.kind <;> by_cases h2 : x.a = y.a <;> by_cases h3 : x.b = y.b <;> by_cases h4 : x.n = y.n <;> simp [h1, h2, h3, h4]
theorem run_eqM (x y : M3) (w : World) : (binOp .eql 65 (.agg #[.int .i64 x.f, .int .i64 x.t, .int .i64 x.n]) (.agg #[.int .i64 y.f, .int .i64 y.t, .int .i64 y.n])).run Tryz.prog w = .ok (.bool (decide (x = y))) w := by
  have e : decide (x = y) = (decide (x.f = y.f) && (decide (x.t = y.t) && decide (x.n = y.n))) := by
    rw [Bool.eq_iff_iff]
    obtain ⟨a, b, c⟩ := x
    obtain ⟨a', b', c'⟩ := y
    simp
  rw [e]
  go_simp
  by_cases h1 : x.f = y.f <;> by_cases h2 : x.t = y.t <;> by_cases h3 : x.n = y.n <;> simp [h1, h2, h3]
theorem run_neK (x y : K4) (w : World) : (binOp .neq 53 (.agg #[.int .u8 x.kind, .int .i64 x.a, .int .i64 x.b, .int .i64 x.n]) (.agg #[.int .u8 y.kind, .int .i64 y.a, .int .i64 y.b, .int .i64 y.n])).run Tryz.prog w = .ok (.bool (!decide (x = y))) w := by
  have e : decide (x = y) = (decide (x.kind = y.kind) && (decide (x.a = y.a) && (decide (x.b = y.b) && decide (x.n = y.n)))) := by
    rw [Bool.eq_iff_iff]
    obtain ⟨a, b, c, d⟩ := x
    obtain ⟨a', b', c', d'⟩ := y
    simp
  rw [e]
  go_simp
  by_cases h1 : x.kind = y.kind <;> by_cases h2 : x.a = y.a <;> by_cases h3 : x.b = y.b <;> by_cases h4 : x.n = y.n <;> simp [h1, h2, h3, h4]
end Go.Proofs.YtemeppfikpafbaaGreatDoor

/- The reference's orders (70, 117) and its sorted lists (64, 65). -/
namespace Go.Proofs.YtemeppfikpafbaaGreatDoor
open Go.RowKit
def ltM (x y : M3) : Prop := x.f < y.f ∨ (x.f = y.f ∧ (x.t < y.t ∨ (x.t = y.t ∧ x.n < y.n)))
instance (x y : M3) : Decidable (ltM x y) := by unfold ltM; infer_instance
def ltMb (x y : M3) : Bool := decide (ltM x y)
theorem ltM_irrefl (x : M3) : ¬ ltM x x := by unfold ltM; omega
theorem ltM_trans {x y z : M3} (h : ltM x y) (h' : ltM y z) : ltM x z := by unfold ltM at *; omega
theorem ltM_tri {x y : M3} (h : ¬ ltM x y) (h' : ¬ ltM y x) : x = y := by
  obtain ⟨a, b, c⟩ := x
  obtain ⟨a', b', c'⟩ := y
  unfold ltM at h h'
  simp only at h h'
  have h1 : a = a' := by omega
  have h2 : b = b' := by omega
  have h3 : c = c' := by omega
  rw [h1, h2, h3]
theorem owns_base {w : World} {B B' : Nat} {e : TypeId} {n size : Nat} {v : Value} {xs : List Value} (h : w.ownsRow B e size v n xs) (hB : B' ≤ B) : w.ownsRow B' e size v n xs := by
  obtain ⟨hl, h | ⟨g, cap, cur, rfl, hg, r⟩⟩ := h
  · exact ⟨hl, Or.inl h⟩
  · exact ⟨hl, Or.inr ⟨g, cap, cur, rfl, Nat.le_trans hB hg, r⟩⟩
set_option maxRecDepth 100000 in
theorem lessK_ref (x y : K4) (w : World) : Calls Tryz.prog 56 #[.agg #[.int .u8 x.kind, .int .i64 x.a, .int .i64 x.b, .int .i64 x.n], .agg #[.int .u8 y.kind, .int .i64 y.a, .int .i64 y.b, .int .i64 y.n]] w fun e w' => e = .returned (.bool (ltKb x y)) ∧ Lay w w' := by
  obtain ⟨xkind, xa, xb, xn⟩ := x
  obtain ⟨ykind, ya, yb, yn⟩ := y
  dsimp only
  by_cases hkind : xkind = ykind
  · subst hkind
    by_cases ha : xa = ya
    · subst ha
      by_cases hb : xb = yb
      · subst hb
        have e : ltKb ⟨xkind, xa, xb, xn⟩ ⟨xkind, xa, xb, yn⟩ = decide (xn < yn) := by unfold ltKb; rw [Bool.eq_iff_iff, decide_eq_true_iff, decide_eq_true_iff]; unfold ltK; dsimp only; omega
        rw [e]
        clear e
        go_enter Tryz.func56, Tryz.ntmps56
        go_wp2_with fail
        obtain ⟨ha, hb, hm⟩ := boxed2 w (.cells #[.int .u8 xkind, .int .i64 xa, .int .i64 xb, .int .i64 xn] 53) (.cells #[.int .u8 xkind, .int .i64 xa, .int .i64 xb, .int .i64 yn] 53)
        generalize (w.alloc (.cells #[.int .u8 xkind, .int .i64 xa, .int .i64 xb, .int .i64 xn] 53)).alloc (.cells #[.int .u8 xkind, .int .i64 xa, .int .i64 xb, .int .i64 yn] 53) = w2 at *
        have a0 : w2.cell? ⟨w.heap.size, 0, none⟩ = some (.int .u8 xkind) := cell_of_blk ha rfl
        have a1 : w2.cell? ⟨w.heap.size, 1, none⟩ = some (.int .i64 xa) := cell_of_blk ha rfl
        have a2 : w2.cell? ⟨w.heap.size, 2, none⟩ = some (.int .i64 xb) := cell_of_blk ha rfl
        have a3 : w2.cell? ⟨w.heap.size, 3, none⟩ = some (.int .i64 xn) := cell_of_blk ha rfl
        have b0 : w2.cell? ⟨w.heap.size + 1, 0, none⟩ = some (.int .u8 xkind) := cell_of_blk hb rfl
        have b1 : w2.cell? ⟨w.heap.size + 1, 1, none⟩ = some (.int .i64 xa) := cell_of_blk hb rfl
        have b2 : w2.cell? ⟨w.heap.size + 1, 2, none⟩ = some (.int .i64 xb) := cell_of_blk hb rfl
        have b3 : w2.cell? ⟨w.heap.size + 1, 3, none⟩ = some (.int .i64 yn) := cell_of_blk hb rfl
        have HM := Lib.hid hm
        clear ha hb hm
        go_wp2_with fail
        go_ret
        exact ⟨rfl, HM.out⟩
      · skip
        have e : ltKb ⟨xkind, xa, xb, xn⟩ ⟨xkind, xa, yb, yn⟩ = decide (xb < yb) := by unfold ltKb; rw [Bool.eq_iff_iff, decide_eq_true_iff, decide_eq_true_iff]; unfold ltK; dsimp only; omega
        rw [e]
        clear e
        go_enter Tryz.func56, Tryz.ntmps56
        go_wp2_with fail
        obtain ⟨ha, hb, hm⟩ := boxed2 w (.cells #[.int .u8 xkind, .int .i64 xa, .int .i64 xb, .int .i64 xn] 53) (.cells #[.int .u8 xkind, .int .i64 xa, .int .i64 yb, .int .i64 yn] 53)
        generalize (w.alloc (.cells #[.int .u8 xkind, .int .i64 xa, .int .i64 xb, .int .i64 xn] 53)).alloc (.cells #[.int .u8 xkind, .int .i64 xa, .int .i64 yb, .int .i64 yn] 53) = w2 at *
        have a0 : w2.cell? ⟨w.heap.size, 0, none⟩ = some (.int .u8 xkind) := cell_of_blk ha rfl
        have a1 : w2.cell? ⟨w.heap.size, 1, none⟩ = some (.int .i64 xa) := cell_of_blk ha rfl
        have a2 : w2.cell? ⟨w.heap.size, 2, none⟩ = some (.int .i64 xb) := cell_of_blk ha rfl
        have a3 : w2.cell? ⟨w.heap.size, 3, none⟩ = some (.int .i64 xn) := cell_of_blk ha rfl
        have b0 : w2.cell? ⟨w.heap.size + 1, 0, none⟩ = some (.int .u8 xkind) := cell_of_blk hb rfl
        have b1 : w2.cell? ⟨w.heap.size + 1, 1, none⟩ = some (.int .i64 xa) := cell_of_blk hb rfl
        have b2 : w2.cell? ⟨w.heap.size + 1, 2, none⟩ = some (.int .i64 yb) := cell_of_blk hb rfl
        have b3 : w2.cell? ⟨w.heap.size + 1, 3, none⟩ = some (.int .i64 yn) := cell_of_blk hb rfl
        have HM := Lib.hid hm
        clear ha hb hm
        go_wp2_with fail
        go_ret
        exact ⟨rfl, HM.out⟩
    · skip
      have e : ltKb ⟨xkind, xa, xb, xn⟩ ⟨xkind, ya, yb, yn⟩ = decide (xa < ya) := by unfold ltKb; rw [Bool.eq_iff_iff, decide_eq_true_iff, decide_eq_true_iff]; unfold ltK; dsimp only; omega
      rw [e]
      clear e
      go_enter Tryz.func56, Tryz.ntmps56
      go_wp2_with fail
      obtain ⟨ha, hb, hm⟩ := boxed2 w (.cells #[.int .u8 xkind, .int .i64 xa, .int .i64 xb, .int .i64 xn] 53) (.cells #[.int .u8 xkind, .int .i64 ya, .int .i64 yb, .int .i64 yn] 53)
      generalize (w.alloc (.cells #[.int .u8 xkind, .int .i64 xa, .int .i64 xb, .int .i64 xn] 53)).alloc (.cells #[.int .u8 xkind, .int .i64 ya, .int .i64 yb, .int .i64 yn] 53) = w2 at *
      have a0 : w2.cell? ⟨w.heap.size, 0, none⟩ = some (.int .u8 xkind) := cell_of_blk ha rfl
      have a1 : w2.cell? ⟨w.heap.size, 1, none⟩ = some (.int .i64 xa) := cell_of_blk ha rfl
      have a2 : w2.cell? ⟨w.heap.size, 2, none⟩ = some (.int .i64 xb) := cell_of_blk ha rfl
      have a3 : w2.cell? ⟨w.heap.size, 3, none⟩ = some (.int .i64 xn) := cell_of_blk ha rfl
      have b0 : w2.cell? ⟨w.heap.size + 1, 0, none⟩ = some (.int .u8 xkind) := cell_of_blk hb rfl
      have b1 : w2.cell? ⟨w.heap.size + 1, 1, none⟩ = some (.int .i64 ya) := cell_of_blk hb rfl
      have b2 : w2.cell? ⟨w.heap.size + 1, 2, none⟩ = some (.int .i64 yb) := cell_of_blk hb rfl
      have b3 : w2.cell? ⟨w.heap.size + 1, 3, none⟩ = some (.int .i64 yn) := cell_of_blk hb rfl
      have HM := Lib.hid hm
      clear ha hb hm
      go_wp2_with fail
      go_ret
      exact ⟨rfl, HM.out⟩
  · skip
    have e : ltKb ⟨xkind, xa, xb, xn⟩ ⟨ykind, ya, yb, yn⟩ = decide (xkind < ykind) := by unfold ltKb; rw [Bool.eq_iff_iff, decide_eq_true_iff, decide_eq_true_iff]; unfold ltK; dsimp only; omega
    rw [e]
    clear e
    go_enter Tryz.func56, Tryz.ntmps56
    go_wp2_with fail
    obtain ⟨ha, hb, hm⟩ := boxed2 w (.cells #[.int .u8 xkind, .int .i64 xa, .int .i64 xb, .int .i64 xn] 53) (.cells #[.int .u8 ykind, .int .i64 ya, .int .i64 yb, .int .i64 yn] 53)
    generalize (w.alloc (.cells #[.int .u8 xkind, .int .i64 xa, .int .i64 xb, .int .i64 xn] 53)).alloc (.cells #[.int .u8 ykind, .int .i64 ya, .int .i64 yb, .int .i64 yn] 53) = w2 at *
    have a0 : w2.cell? ⟨w.heap.size, 0, none⟩ = some (.int .u8 xkind) := cell_of_blk ha rfl
    have a1 : w2.cell? ⟨w.heap.size, 1, none⟩ = some (.int .i64 xa) := cell_of_blk ha rfl
    have a2 : w2.cell? ⟨w.heap.size, 2, none⟩ = some (.int .i64 xb) := cell_of_blk ha rfl
    have a3 : w2.cell? ⟨w.heap.size, 3, none⟩ = some (.int .i64 xn) := cell_of_blk ha rfl
    have b0 : w2.cell? ⟨w.heap.size + 1, 0, none⟩ = some (.int .u8 ykind) := cell_of_blk hb rfl
    have b1 : w2.cell? ⟨w.heap.size + 1, 1, none⟩ = some (.int .i64 ya) := cell_of_blk hb rfl
    have b2 : w2.cell? ⟨w.heap.size + 1, 2, none⟩ = some (.int .i64 yb) := cell_of_blk hb rfl
    have b3 : w2.cell? ⟨w.heap.size + 1, 3, none⟩ = some (.int .i64 yn) := cell_of_blk hb rfl
    have HM := Lib.hid hm
    clear ha hb hm
    go_wp2_with fail
    go_ret
    exact ⟨rfl, HM.out⟩
end Go.Proofs.YtemeppfikpafbaaGreatDoor

/- Sets of choices and of messages by bits: plain laws of the cache. -/
namespace Go.Proofs.YtemeppfikpafbaaGreatDoor
open Go.RowKit
/-- A choice without number and arguments. -/
structure Ch where
  k : K4
  t : Int
deriving DecidableEq
instance : Inhabited Ch := ⟨⟨default, 0⟩⟩
def chC (x : Ch) : List Value := [.int .u8 x.k.kind, .int .i64 x.k.a, .int .i64 x.k.b, .int .i64 x.k.n, .int .i64 x.t, .int .i64 0, .slice none 0 0]
theorem chC_len (x : Ch) : (chC x).length = 7 := rfl
def ltC (x y : Ch) : Prop := ltK x.k y.k
instance (x y : Ch) : Decidable (ltC x y) := by unfold ltC; infer_instance
end Go.Proofs.YtemeppfikpafbaaGreatDoor

/- Choices of all kinds: key, tick, number, arguments; rows of them; law17.mod (143). -/
namespace Go.Proofs.YtemeppfikpafbaaGreatDoor
open Go.RowKit
structure Cg where
  k : K4
  t : Int
  d : Int
  l : List Int
instance : Inhabited Cg := ⟨⟨default, 0, 0, []⟩⟩
/-- A choice and its slice of arguments. -/
abbrev GV := Value × Cg
def gC (p : GV) : List Value := [.int .u8 p.2.k.kind, .int .i64 p.2.k.a, .int .i64 p.2.k.b, .int .i64 p.2.k.n, .int .i64 p.2.t, .int .i64 p.2.d, p.1]
theorem gC_len (p : GV) : (gC p).length = 7 := rfl
def gA (p : GV) : Value := .agg #[.int .u8 p.2.k.kind, .int .i64 p.2.k.a, .int .i64 p.2.k.b, .int .i64 p.2.k.n, .int .i64 p.2.t, .int .i64 p.2.d, p.1]
theorem infoG : (Tryz.prog.info? 58).map (fun i => (i.zero, i.size, i.bytes)) = some (some (.agg #[.int .u8 0, .int .i64 0, .int .i64 0, .int .i64 0, .int .i64 0, .int .i64 0, .slice none 0 0]), 7, 72) := by kernel_rfl
theorem infoN : (Tryz.prog.info? 2).map (fun i => (i.zero, i.size, i.bytes)) = some (some (.int .i64 0), 1, 8) := by kernel_rfl
def nC (n : Int) : List Value := [.int .i64 n]
theorem nC_len (n : Int) : (nC n).length = 1 := rfl
/-- The arguments of a choice, in blocks of S. -/
structure GArg (S : Nat → Prop) (w : World) (p : GV) : Prop where
  row : Row S w 1 p.2.l.length p.1 (flatC nC p.2.l)
  nil : NilA p.1
theorem GArg.mono {S S' : Nat → Prop} {w w' : World} {p : GV} (h : GArg S w p) (hS : ∀ b, S b → b < w.heap.size → S' b) (hw : ∀ b, S b → b < w.heap.size → w'.heap[b]? = w.heap[b]?) : GArg S' w' p :=
  ⟨(h.row.lt (by omega)).mono (fun b hb => hS b hb.1 hb.2) (fun b off x hb hc => by
    rw [← hc]; exact World.cell?_of_block (w := w) (a := ⟨b, off, none⟩) (hw b hb.1 hb.2)), h.nil⟩
theorem GArg.more {S : Nat → Prop} {w w' : World} {p : GV} (h : GArg S w p) (hm : More w w') : GArg S w' p := h.mono (fun _ hb _ => hb) (fun _ _ hl => hm.block hl)
/-- A list of choices that is being made. -/
structure AllG (N : Nat) (w : World) (v : Value) (l : List GV) : Prop where
  own : w.ownsRow N 58 7 v l.length (flatC gC l)
  ent : ∀ p ∈ l, GArg (fun b => v.ownBlock ≠ some b) w p
theorem AllG.nil (N : Nat) (w : World) : AllG N w (.slice none 0 0) [] := ⟨World.ownsRow_nil _ _ _ _, fun p h => by simp at h⟩
theorem AllG.more {N : Nat} {w w' : World} {v : Value} {l : List GV} (h : AllG N w v l) (hm : More w w') : AllG N w' v l :=
  ⟨owns_keep h.own (fun z hz => hm.block ((owns_shape h.own).choose_spec.choose_spec.2 z hz).2), fun p hp => (h.ent p hp).more hm⟩
theorem AllG.push {N : Nat} {w w' : World} {v v' : Value} {l : List GV} (h : AllG N w v l) {p : GV} (hp : GArg (fun b => v.ownBlock ≠ some b) w p)
    (hown : w'.ownsRow N 58 7 v' (l.length + 1) (flatC gC l ++ gC p)) (hg : w.grownBy w' v.ownBlock) (hv : ∀ z, v'.ownBlock = some z → v.ownBlock = some z ∨ w.heap.size ≤ z) : AllG N w' v' (l ++ [p]) := by
  have key : ∀ x : GV, GArg (fun b => v.ownBlock ≠ some b) w x → GArg (fun b => v'.ownBlock ≠ some b) w' x := fun x hx => hx.mono (fun b hb hl e => by
    rcases hv b e with h1 | h1
    · exact hb h1
    · omega) (fun b hb hl => hg.block b hl (fun e => hb e.symm))
  refine ⟨by rw [List.length_append, List.length_singleton, flatC_push]; exact hown, fun x hx => ?_⟩
  rcases List.mem_append.1 hx with h1 | h1
  · exact key x (h.ent x h1)
  · rw [List.mem_singleton] at h1; subst h1; exact key x hp
theorem tmod_mod {a n : Int} (hn : 0 < n) : ∃ r, Int.tmod a n = r ∧ -n < r ∧ r < n ∧ Int.tmod (r + n) n = a % n := by
  refine ⟨_, rfl, Int.lt_tmod_of_pos a hn, Int.tmod_lt_of_pos a hn, ?_⟩
  have h1 := Int.lt_tmod_of_pos a hn
  rw [Int.tmod_eq_emod_of_nonneg (by omega), Int.add_emod_right, Int.tmod_def, Int.sub_mul_emod_self_left]
theorem mod143_any (a n : Int) (w : World) (hn : 0 < n) (hn2 : n ≤ 1000) : Calls Tryz.prog 51 #[.int .i64 a, .int .i64 n] w fun e w' => e = .returned (.int .i64 (a % n)) ∧ w' = w := by
  obtain ⟨r, hr, h1, h2, h3⟩ := tmod_mod (a := a) hn
  have hs0 : 0 ≤ a % n := Int.emod_nonneg _ (by omega)
  have hs1 : a % n < n := Int.emod_lt_of_pos _ hn
  generalize a % n = s at *
  have hz : (n == 0) = false := beq_eq_false_iff_ne.2 (by omega)
  go_enter Tryz.func51, Tryz.ntmps51
  go_wp2_with fail
  go_ret
  exact ⟨rfl, rfl⟩
/-- A valid choice. -/
def topB (kd : Int) : Int := if kd = 1 then 7 else if kd = 5 ∨ kd = 6 ∨ kd = 7 then 7 else 0
def topT (kd : Int) : Int := if kd = 1 ∨ kd = 2 ∨ kd = 3 ∨ kd = 4 then 200 else 0
def lowD (kd : Int) : Int := if kd = 3 ∨ kd = 6 ∨ kd = 9 then 1 else 0
def topD (kd : Int) : Int := if kd = 2 then 1 else if kd = 3 then 3 else if kd = 6 ∨ kd = 9 ∨ kd = 7 then 200 else 0
structure KeyOk (k : K4) : Prop where
  k0 : 1 ≤ k.kind
  k1 : k.kind ≤ 9
  a0 : 0 ≤ k.a
  a1 : k.a ≤ 7
  b0 : 0 ≤ k.b
  b1 : k.b ≤ topB k.kind
  n0 : 0 ≤ k.n
  n1 : k.n ≤ 65535
structure CgOk (x : Cg) : Prop where
  key : KeyOk x.k
  t0 : 0 ≤ x.t
  t1 : x.t ≤ topT x.k.kind
  d0 : lowD x.k.kind ≤ x.d
  d1 : x.d ≤ topD x.k.kind
  l : x.l.length ≤ (if x.k.kind = 1 then 4 else 0)
end Go.Proofs.YtemeppfikpafbaaGreatDoor

/- Appends of any row, and list[:p], in the first seat's numbers. -/
namespace Go.Proofs.YtemeppfikpafbaaGreatDoor
open Go.RowKit
theorem wp_append_rowC {w : World} {o : Oper} {a : Act} {K : Act → World → Prop} {Q : Exit → Act → World → Prop} (s x : Operand) (t : TypeId)
    (ho : o.op = .call { callee := .builtin .append, args := #[s, x], argTypes := #[t, t] })
    (base : Nat) (e : TypeId) (i : TypeInfo) (z : Value) (size bytes : Nat) (ht : Tryz.prog.underlying t = some (.slice e)) (hi : Tryz.prog.info? e = some i) (hz : i.zero = some z)
    (hsize : i.size = size) (hby : i.bytes = bytes) (hzs : z.cells.size = size) (hsz : 0 < size)
    (v : Value) (n : Nat) (xs : List Value) (hs : a.eval s = v) (hown : w.ownsRow base e size v n xs)
    (xv : Value) (m : Nat) (news : List Value) (hx : a.eval x = xv) (hrow : Row anyB w size m xv news) (hnil : NilA xv) (h1 : ∀ u ∈ news, u.oneCell' = true)
    (h63 : n + m ≤ maxLen) (hbytes : (n + m) * bytes ≤ 140737488355328) (hbase : base ≤ w.heap.size)
    (h : ∀ v' w', w'.ownsRow base e size v' (n + m) (xs ++ news) → w.grownBy w' v.ownBlock → K (a.put o.dst v') w') : o.wp Tryz.prog a w K Q := by
  obtain ⟨xa, xc, rfl, _⟩ := hrow.shape
  cases xa with
  | none =>
    obtain rfl := hnil _ _ rfl
    have hm : m = 0 := by
      rcases Nat.eq_zero_or_pos m with h0 | h0
      · exact h0
      · obtain ⟨_, _, he, _⟩ := hrow.at (by omega); cases he
    subst hm
    have hn : news = [] := List.length_eq_zero_iff.1 (by rw [hrow.1]; omega)
    subst hn
    have hrun := run_append_owned_none (P := Tryz.prog) (w := w) base t o.type e i size ht hi v n xs hown
    unfold Oper.wp
    simp [execOp, ho, resolve, invoke, builtin, hs, hx, hrun, Result.andThen]
    exact h v w (by simpa using hown) (World.grownBy.refl _ _)
  | some ta =>
    refine wp_append_own w s x t ho base e i z size bytes ht hi hz hsize hby hzs hsz v n xs hs hown ta m xc news hx hrow.1 (fun j u hj => ?_) h1 h63 hbytes hbase fun v' w' h2 h3 _ => h v' w' h2 h3
    have hne : m ≠ 0 := by
      intro e
      have : news = [] := List.length_eq_zero_iff.1 (by rw [hrow.1, e]; omega)
      rw [this] at hj; simp at hj
    obtain ⟨b2, off2, he, _, _, hc2⟩ := hrow.at hne
    cases he
    rw [Addr.add_lit]
    exact hc2 j u hj
theorem wpList_append_rowC {w : World} {ops : Array Oper} {rest : List Oper} {o : Oper} {a : Act} {Q : Exit → Act → World → Prop} (hgd : o.guard = none) (s x : Operand) (t : TypeId)
    (ho : o.op = .call { callee := .builtin .append, args := #[s, x], argTypes := #[t, t] })
    (base : Nat) (e : TypeId) (i : TypeInfo) (z : Value) (size bytes : Nat) (ht : Tryz.prog.underlying t = some (.slice e)) (hi : Tryz.prog.info? e = some i) (hz : i.zero = some z)
    (hsize : i.size = size) (hby : i.bytes = bytes) (hzs : z.cells.size = size) (hsz : 0 < size)
    (v : Value) (n : Nat) (xs : List Value) (hs : a.eval s = v) (hown : w.ownsRow base e size v n xs)
    (xv : Value) (m : Nat) (news : List Value) (hx : a.eval x = xv) (hrow : Row anyB w size m xv news) (hnil : NilA xv) (h1 : ∀ u ∈ news, u.oneCell' = true)
    (h63 : n + m ≤ maxLen) (hbytes : (n + m) * bytes ≤ 140737488355328) (hbase : base ≤ w.heap.size)
    (h : ∀ v' w', w'.ownsRow base e size v' (n + m) (xs ++ news) → w.grownBy w' v.ownBlock → wpList Tryz.prog ops Q rest (a.put o.dst v') w') : wpList Tryz.prog ops Q (o :: rest) a w :=
  wpList_plain hgd fun _ hK => wp_append_rowC s x t ho base e i z size bytes ht hi hz hsize hby hzs hsz v n xs hs hown xv m news hx hrow hnil h1 h63 hbytes hbase fun v' w' h2 h3 => hK _ _ (h v' w' h2 h3)
theorem step_append_rowC {w : World} {ops : Array Oper} {o : Oper} {a : Act} {K : Act → World → Prop} {Q : Exit → Act → World → Prop} {E : Prop} (hgd : o.guard = none) (s x : Operand) (t : TypeId)
    (ho : o.op = .call { callee := .builtin .append, args := #[s, x], argTypes := #[t, t] })
    (base : Nat) (e : TypeId) (i : TypeInfo) (z : Value) (size bytes : Nat) (ht : Tryz.prog.underlying t = some (.slice e)) (hi : Tryz.prog.info? e = some i) (hz : i.zero = some z)
    (hsize : i.size = size) (hby : i.bytes = bytes) (hzs : z.cells.size = size) (hsz : 0 < size)
    (v : Value) (n : Nat) (xs : List Value) (hs : a.eval s = v) (hown : w.ownsRow base e size v n xs)
    (xv : Value) (m : Nat) (news : List Value) (hx : a.eval x = xv) (hrow : Row anyB w size m xv news) (hnil : NilA xv) (h1 : ∀ u ∈ news, u.oneCell' = true)
    (h63 : n + m ≤ maxLen) (hbytes : (n + m) * bytes ≤ 140737488355328) (hbase : base ≤ w.heap.size)
    (h : ∀ v' w', w'.ownsRow base e size v' (n + m) (xs ++ news) → w.grownBy w' v.ownBlock → K (a.put o.dst v') w') : if Region.wanted o (yielded ops a.tmps) = true then Oper.wp Tryz.prog o a w K Q else E := by
  have hw : Region.wanted o (yielded ops a.tmps) = true := by simp [Region.wanted, hgd]
  rw [if_pos hw]
  exact wp_append_rowC s x t ho base e i z size bytes ht hi hz hsize hby hzs hsz v n xs hs hown xv m news hx hrow hnil h1 h63 hbytes hbase h
/-- list[:p] of arguments. -/
theorem take111 {S : Nat → Prop} {w : World} {a : Option Addr} {n cap p : Nat} {l : List Int} (hp : p ≤ n) (hl : l.length = n) (h : Row S w 1 n (.slice a n cap) (flatC nC l)) (hn : NilA (.slice a n cap)) :
    (∀ W, (Instr.slice 56 (.slice a n cap) none (some (.int .i64 (p : Int))) none).run Tryz.prog W = .ok (.slice a p cap) W) ∧ Row S w 1 (l.take p).length (.slice a p cap) (flatC nC (l.take p)) ∧ NilA (.slice a p cap) := by
  obtain ⟨_, _, e0, hc⟩ := h.shape
  cases e0
  have htl : (l.take p).length = p := by rw [List.length_take, hl]; omega
  rw [htl, flatC_take nC_len]
  rcases a with _ | a
  · obtain rfl := hn _ _ rfl
    obtain rfl : n = 0 := by omega
    obtain rfl : p = 0 := by omega
    have hl0 : l = [] := List.length_eq_zero_iff.1 hl
    subst hl0
    exact ⟨fun W => by simp [go_sem, sliced], Row.nil _ _ _ _ _, fun n d e => by cases e; rfl⟩
  · by_cases hn0 : n = 0
    · subst hn0
      obtain rfl : p = 0 := by omega
      have hl0 : l = [] := List.length_eq_zero_iff.1 hl
      subst hl0
      exact ⟨fun W => by simp [go_sem, sliced], Row.nil _ _ _ _ _, fun n d e => by cases e⟩
    · obtain ⟨b, off, hab, _⟩ := h.at hn0
      cases hab
      exact ⟨fun W => by simp [go_sem, sliced]; omega, h.take hp, fun n d e => by cases e⟩
theorem nC_one (l : List Int) : ∀ u ∈ flatC nC l, u.oneCell' = true := by
  intro u hu
  unfold flatC at hu
  obtain ⟨x, _, hx⟩ := List.mem_flatMap.1 hu
  simp only [nC, List.mem_cons, List.not_mem_nil, or_false] at hx
  subst hx; rfl
end Go.Proofs.YtemeppfikpafbaaGreatDoor

