/- Texts ConcB, PutN, TByt, DecL, OpenB, OpnP, Law, Facts, laid together. -/
import Derived.Laws.Bits64
import Derived.Deep.RegionHeld3
import Derived.SizedLaws
import Derived.Carry
import Derived.ChangeSame
import Derived.ProofKit
import Derived.JoinedOf
import Derived.Test.YtekhoanjpnjaeaaRows
import Derived.KernelRfl
import Derived.Test.YtekhoanjpnjaeaaNa
import Derived.Test.YtekhoanjpnjaeaaNp
import Derived.Test.YtekhoanjpnjaeaaNy
/- Bytes: slices.Grow (121), slices.Concat (83), PutUint (84), Zigzag (123), PutInt (85). -/
namespace Go.Proofs.Ytekhoanjpnjaeaa
open Go.RowKit Go.Shelf

/-- A slice that reads as bytes. -/
def ByV (S : Nat → Prop) (w : World) (l : List Int) (v : Value) : Prop := ∃ a cap, v = .slice a l.length cap ∧ Row S w 1 l.length v (bV l) ∧ PlainA a cap
theorem ByV.below {S : Nat → Prop} {w w' : World} {l : List Int} {v : Value} (hB : Below w.heap.size w w') (h : ByV S w l v) : ByV S w' l v := by
  obtain ⟨a, cap, rfl, hr, hp⟩ := h
  exact ⟨a, cap, rfl, hr.below hB, hp⟩
theorem ByV.mono {S S' : Nat → Prop} {w : World} {l : List Int} {v : Value} (hS : ∀ b, S b → S' b) (h : ByV S w l v) : ByV S' w l v := by
  obtain ⟨a, cap, rfl, hr, hp⟩ := h
  exact ⟨a, cap, rfl, hr.mono hS (fun _ _ _ _ h => h), hp⟩
theorem ByV.nil (S : Nat → Prop) (w : World) : ByV S w [] (.slice none 0 0) := ⟨none, 0, rfl, Row.nil _ _ _ _ _, Or.inl ⟨rfl, rfl⟩⟩
theorem plain_owns {w : World} {B : Nat} {e : TypeId} {n size cap : Nat} {a : Option Addr} {xs : List Value} (h : w.ownsRow B e size (.slice a n cap) n xs) : PlainA a cap := by
  obtain ⟨_, h | ⟨g, c, cur, h, _⟩⟩ := h
  · have := h.1; simp at this; exact Or.inl ⟨this.1, this.2.2⟩
  · cases h; exact Or.inr ⟨g, 0, rfl⟩
theorem ByV.of_owns {w : World} {B : Nat} {l : List Int} {v : Value} (h : w.ownsRow B 5 1 v l.length (bV l)) : ByV (fun x => B ≤ x) w l v := by
  obtain ⟨a, cap, rfl, _⟩ := owns_shape h
  exact ⟨a, cap, rfl, Row.of_owns h, plain_owns h⟩
/-- What an append law asks of its source. -/
theorem ByV.news {S : Nat → Prop} {w : World} {l : List Int} {ad : Addr} {n cap : Nat} (h : ByV S w l (.slice (some ad) n cap)) : ∀ i u, (bV l)[i]? = some u → w.cell? (ad.add i) = some u := fun i u hu => by
  obtain ⟨a, c, e, hr, _⟩ := h
  cases e
  have hne : l.length ≠ 0 := by
    intro e
    have : l = [] := List.length_eq_zero_iff.1 e
    subst this; simp [bV] at hu
  obtain ⟨b2, off2, he, _, _, hc2⟩ := hr.at hne
  cases he
  rw [Addr.add_lit]
  exact hc2 i u hu
end Go.Proofs.Ytekhoanjpnjaeaa

/- PutUint (84), Zigzag (123), PutInt (85). -/
namespace Go.Proofs.Ytekhoanjpnjaeaa
open Go.RowKit

end Go.Proofs.Ytekhoanjpnjaeaa

/- Table.Bytes (45); ref01.Same (46). -/
namespace Go.Proofs.Ytekhoanjpnjaeaa
open Go.RowKit

/-- Behind such an append: everything that a round needs. -/
structure BytsInv (B : Nat) (w : World) (k : Nat) (ob : Obj) (O : List Int) (n : Nat) (v : Value) (w' : World) : Prop where
  below : Below B w w'
  box : w'.heap[k]? = some ob
  own : w'.ownsRow B 5 1 v n (bV O)
  ne : v.ownBlock ≠ some k
theorem BytsInv.size {B : Nat} {w w' : World} {k n : Nat} {ob : Obj} {O : List Int} {v : Value} (h : BytsInv B w k ob O n v w') (hB : B ≤ w.heap.size) : B ≤ w'.heap.size := Nat.le_trans hB h.below.size
theorem BytsInv.more {B : Nat} {w w1 w' : World} {k n : Nat} {ob : Obj} {O : List Int} {v : Value} (h : BytsInv B w k ob O n v w1) (hB : B ≤ w.heap.size) (hm : More w1 w') : BytsInv B w k ob O n v w' := by
  obtain ⟨_, _, _, hoo⟩ := owns_shape h.own
  exact ⟨h.below.trans (hm.below.mono (h.size hB)), (hm.block (Array.getElem?_eq_some_iff.1 h.box).1).trans h.box, owns_keep h.own (fun x hx => hm.block (hoo x hx).2), h.ne⟩
end Go.Proofs.Ytekhoanjpnjaeaa

/- Reading numbers, in plain words. -/
namespace Go.Proofs.Ytekhoanjpnjaeaa
open Go.RowKit
end Go.Proofs.Ytekhoanjpnjaeaa

/- Bytes that came in as an argument, opened. -/
namespace Go.Proofs.Ytekhoanjpnjaeaa
open Go.RowKit Go.ChangeShapes Go.WideShapes
section
variable {H : Type} {enc : TypeId × Value → H} {w : World} {base : Nat} {spare : Nat → Bool} {held : Bool}
theorem byte_elem (fuel : Nat) (cs : List Value) (y : DataW H × List MemPlace) (h : DataW.trod enc Try.prog w base spare held fuel 5 cs = some y) : ∃ x : Int, (0 ≤ x ∧ x ≤ 255) ∧ cs = [.int .u8 x] := by
  obtain ⟨n0, c0, _, w0⟩ := DataW.trod_int Try.underlying5 h
  exact ⟨n0, ⟨(wf8 w0).1, by have := (wf8 w0).2; omega⟩, c0⟩
theorem flatB_eq (l : List Int) : l.flatMap (fun x => [Value.int .u8 x]) = bV l := by
  induction l with
  | nil => rfl
  | cons x xs ih => rw [List.flatMap_cons, ih]; rfl
end
end Go.Proofs.Ytekhoanjpnjaeaa

/- The argument of ExprRandom (a plan), opened. -/
namespace Go.Proofs.Ytekhoanjpnjaeaa
open Go.RowKit Go.ChangeShapes Go.WideShapes
section
variable {H : Type} {enc : TypeId × Value → H} {w : World} {base : Nat} {spare : Nat → Bool} {held : Bool}
theorem list_len2 {l : List Value} (hl : l.length = 2) {a b : Value} (h0 : l[0]? = some a) (h1 : l[1]? = some b) : l = [a, b] := by
  match l, hl with
  | [_, _], _ => simp_all
theorem list_len3 {l : List Value} (hl : l.length = 3) {a b c : Value} (h0 : l[0]? = some a) (h1 : l[1]? = some b) (h2 : l[2]? = some c) : l = [a, b, c] := by
  match l, hl with
  | [_, _, _], _ => simp_all
theorem list_len4 {l : List Value} (hl : l.length = 4) {a b c d : Value} (h0 : l[0]? = some a) (h1 : l[1]? = some b) (h2 : l[2]? = some c) (h3 : l[3]? = some d) : l = [a, b, c, d] := by
  match l, hl with
  | [_, _, _, _], _ => simp_all
/-- A row's address is plain, or it is empty. -/
theorem plainZ_row {S : Nat → Prop} {size n c : Nat} {a : Addr} {xs : List Value} (h : Row S w size n (.slice (some a) n c) xs) : PlainZ (some a) n c := by
  by_cases hn : n = 0
  · exact Or.inr ⟨hn, a, rfl⟩
  · obtain ⟨b, off, e, _⟩ := h.at hn
    exact Or.inl (Or.inr ⟨b, off, e⟩)
theorem plainZ_nil : PlainZ none 0 0 := Or.inl (Or.inl ⟨rfl, rfl⟩)
/-- A slice of structs, opened as a row with a property of its elements. -/
theorem open_rowOf {C : Nat} (Q : PRd) {t e : TypeId} {fuel : Nat} {cs : List Value} {y : DataW H × List MemPlace} (hC0 : 0 < C) (ht : Try.prog.underlying t = some (.slice e)) (hC : Try.prog.cellsOf e = C)
    (helem : ∀ fuel cs y, DataW.trod enc Try.prog w base spare held fuel e cs = some y → cs.length = C ∧ Q (fun _ => True) w cs) (h : DataW.trod enc Try.prog w base spare held fuel t cs = some y) :
    ∃ a n c, cs = [.slice a n c] ∧ PlainZ a n c ∧ RowOf C maxLen Q (fun _ => True) w (.slice a n c) := by
  rcases Deep.open_slice ht h with ⟨rfl, _⟩ | ⟨a, len, cap, m, n, D, Pl, rfl, _⟩
  · exact ⟨none, 0, 0, rfl, plainZ_nil, [], Row.nil _ _ _ _ _, Nat.zero_le _, fun l hl => absurd hl List.not_mem_nil, fun l hl => absurd hl List.not_mem_nil⟩
  · haveI : Inhabited {l : List Value // l.length = C} := ⟨⟨List.replicate C default, List.length_replicate⟩⟩
    obtain ⟨xs, hx, hxl, hrow⟩ := open_rows (α := {l : List Value // l.length = C}) Subtype.val (fun l => Q (fun _ => True) w l.1) C (fun x => x.2) hC0 ht hC
      (fun fuel cs y h => ⟨⟨cs, (helem fuel cs y h).1⟩, (helem fuel cs y h).2, rfl⟩) ⟨some a, len, cap, rfl⟩ (d := y.1) (ps := y.2) ⟨fuel, by simpa [Value.cells] using h⟩
    obtain ⟨_, _, e, _⟩ := hrow.shape
    injection e with _ e _
    subst e
    refine ⟨some a, xs.length, cap, rfl, plainZ_row hrow, xs.map Subtype.val, ?_, by rw [List.length_map]; exact hxl, fun l hl => ?_, fun l hl => ?_⟩
    · rw [List.length_map]
      exact hrow
    · obtain ⟨x, _, rfl⟩ := List.mem_map.1 hl
      exact x.2
    · obtain ⟨x, hx', rfl⟩ := List.mem_map.1 hl
      exact hx x hx'
theorem open_bytesAt {fuel : Nat} {cs : List Value} {y : DataW H × List MemPlace} (h : DataW.trod enc Try.prog w base spare held fuel 80 cs = some y) : ∃ v, cs = [v] ∧ BytesAt (fun _ => True) w v := by
  rcases Deep.open_slice Try.underlying80 h with ⟨rfl, _⟩ | ⟨a, len, cap, m, n, D, Pl, rfl, _⟩
  · exact ⟨_, rfl, none, 0, 0, [], rfl, rfl, plainZ_nil, Row.nil _ _ _ _ _, fun b hb => absurd hb List.not_mem_nil⟩
  · obtain ⟨xs, hx, hxl, hrow⟩ := open_rows (fun n : Int => [Value.int .u8 n]) (fun n => 0 ≤ n ∧ n ≤ 255) 1 (fun _ => rfl) (by omega) Try.underlying80 cellsT5 byte_elem ⟨some a, len, cap, rfl⟩ (d := y.1) (ps := y.2) ⟨fuel, by simpa [Value.cells] using h⟩
    rw [flatB_eq] at hrow
    obtain ⟨_, _, e, _⟩ := hrow.shape
    injection e with _ e _
    subst e
    exact ⟨_, rfl, some a, xs.length, cap, xs, rfl, rfl, plainZ_row hrow, hrow, hx⟩
theorem cellsT80 : Try.prog.cellsOf 80 = 1 := by kernel_rfl
theorem cellsT205 : Try.prog.cellsOf 205 = 2 := by kernel_rfl
theorem cellsT189 : Try.prog.cellsOf 189 = 1 := by kernel_rfl
theorem cellsT191 : Try.prog.cellsOf 191 = 4 := by kernel_rfl
theorem cellsT110 : Try.prog.cellsOf 110 = 1 := by kernel_rfl
theorem cellsT112 : Try.prog.cellsOf 112 = 3 := by kernel_rfl
set_option maxRecDepth 100000 in
theorem code_elem (fuel : Nat) (cs : List Value) (y : DataW H × List MemPlace) (h : DataW.trod enc Try.prog w base spare held fuel 205 cs = some y) : cs.length = 2 ∧ Code0 (fun _ => True) w cs := by
  obtain ⟨xs, n, _, _, hl, hxl, hf⟩ := DataW.trod_struct Try.underlying205 h
  rw [cellsT205] at hl
  have g : ∀ j, j < 2 → ∃ z, xs[j]? = some z := fun j hj => ⟨_, List.getElem?_eq_getElem (by rw [hxl]; exact hj)⟩
  have f0 := hf 0 _ rfl
  obtain ⟨z0, e0⟩ := g 0 (by omega)
  rw [e0] at f0
  obtain ⟨n0, c0, _, w0⟩ := DataW.trod_int Try.underlying5 f0
  change (cs.drop 0).take (Try.prog.cellsOf 5) = _ at c0
  rw [cellsT5] at c0
  have f1 := hf 1 _ rfl
  obtain ⟨z1, e1⟩ := g 1 (by omega)
  rw [e1] at f1
  obtain ⟨v1, c1, b1⟩ := open_bytesAt f1
  change (cs.drop 1).take (Try.prog.cellsOf 80) = _ at c1
  rw [cellsT80] at c1
  refine ⟨hl, n0, v1, list_len2 hl (one_of c0) (one_of c1), (wf8 w0).1, (wf8 w0).2, b1⟩
set_option maxRecDepth 100000 in
theorem open_codesAt {fuel : Nat} {cs : List Value} {y : DataW H × List MemPlace} (h : DataW.trod enc Try.prog w base spare held fuel 189 cs = some y) : ∃ v, cs = [v] ∧ CodesAt (fun _ => True) w v := by
  obtain ⟨a, n, c, rfl, hp, hr⟩ := open_rowOf Code0 (by decide) Try.underlying189 cellsT205 code_elem h
  exact ⟨_, rfl, a, n, c, rfl, hp, hr⟩
set_option maxRecDepth 100000 in
theorem part_elem (fuel : Nat) (cs : List Value) (y : DataW H × List MemPlace) (h : DataW.trod enc Try.prog w base spare held fuel 191 cs = some y) : cs.length = 4 ∧ PartC (fun _ => True) w cs := by
  obtain ⟨xs, n, _, _, hl, hxl, hf⟩ := DataW.trod_struct Try.underlying191 h
  rw [cellsT191] at hl
  have g : ∀ j, j < 4 → ∃ z, xs[j]? = some z := fun j hj => ⟨_, List.getElem?_eq_getElem (by rw [hxl]; exact hj)⟩
  have f0 := hf 0 _ rfl
  obtain ⟨z0, e0⟩ := g 0 (by omega)
  rw [e0] at f0
  obtain ⟨n0, c0, _, w0⟩ := DataW.trod_int Try.underlying5 f0
  change (cs.drop 0).take (Try.prog.cellsOf 5) = _ at c0
  rw [cellsT5] at c0
  have f1 := hf 1 _ rfl
  obtain ⟨z1, e1⟩ := g 1 (by omega)
  rw [e1] at f1
  obtain ⟨n1, c1, _, w1⟩ := DataW.trod_int Try.underlying5 f1
  change (cs.drop 1).take (Try.prog.cellsOf 5) = _ at c1
  rw [cellsT5] at c1
  have f2 := hf 2 _ rfl
  obtain ⟨z2, e2⟩ := g 2 (by omega)
  rw [e2] at f2
  obtain ⟨v2, c2, b2⟩ := open_codesAt f2
  change (cs.drop 2).take (Try.prog.cellsOf 189) = _ at c2
  rw [cellsT189] at c2
  have f3 := hf 3 _ rfl
  obtain ⟨z3, e3⟩ := g 3 (by omega)
  rw [e3] at f3
  obtain ⟨v3, c3, b3⟩ := open_codesAt f3
  change (cs.drop 3).take (Try.prog.cellsOf 189) = _ at c3
  rw [cellsT189] at c3
  exact ⟨hl, n0, n1, v2, v3, list_len4 hl (one_of c0) (one_of c1) (one_of c2) (one_of c3), wf8 w0, wf8 w1, b2, b3⟩
set_option maxRecDepth 100000 in
theorem open_plan {r : Reach} {b0 : Nat} {v : Value} {d : DataW H} {ps : List MemPlace} (hv : Value.okWide Try.prog w r b0 112 v) (h : DataW.Trod enc Try.prog w base spare held 112 v d ps) :
    ∃ fl la ln lc ca cn cc, v = .agg #[.int .u8 fl, .slice la ln lc, .slice ca cn cc] ∧ (0 ≤ fl ∧ fl ≤ 255) ∧ BytesAt (fun _ => True) w (.slice la ln lc) ∧ PlainZ ca cn cc ∧ RowOf 4 maxLen PartC (fun _ => True) w (.slice ca cn cc) := by
  obtain ⟨cs, rfl, _⟩ := okWide_struct Try.underlying112 hv
  obtain ⟨fuel, hf⟩ := h
  obtain ⟨xs, n, _, _, hl, hxl, hf⟩ := DataW.trod_struct Try.underlying112 hf
  rw [cellsT112] at hl
  have g : ∀ j, j < 3 → ∃ z, xs[j]? = some z := fun j hj => ⟨_, List.getElem?_eq_getElem (by rw [hxl]; exact hj)⟩
  have f0 := hf 0 _ rfl
  obtain ⟨z0, e0⟩ := g 0 (by omega)
  rw [e0] at f0
  obtain ⟨n0, c0, _, w0⟩ := DataW.trod_int Try.underlying5 f0
  change ((Value.cells (.agg cs)).toList.drop 0).take (Try.prog.cellsOf 5) = _ at c0
  rw [cellsT5] at c0
  have f1 := hf 1 _ rfl
  obtain ⟨z1, e1⟩ := g 1 (by omega)
  rw [e1] at f1
  obtain ⟨v1, c1, b1⟩ := open_bytesAt f1
  change ((Value.cells (.agg cs)).toList.drop 1).take (Try.prog.cellsOf 80) = _ at c1
  rw [cellsT80] at c1
  have f2 := hf 2 _ rfl
  obtain ⟨z2, e2⟩ := g 2 (by omega)
  rw [e2] at f2
  obtain ⟨ca, cn, cc, c2, hp2, hr2⟩ := open_rowOf PartC (by decide) Try.underlying110 cellsT191 part_elem f2
  change ((Value.cells (.agg cs)).toList.drop 2).take (Try.prog.cellsOf 110) = _ at c2
  rw [cellsT110] at c2
  obtain ⟨la, ln, lc, bs, rfl, hb⟩ := b1
  have e := list_len3 hl (one_of c0) (one_of c1) (one_of c2)
  refine ⟨n0, la, ln, lc, ca, cn, cc, ?_, wf8 w0, ⟨la, ln, lc, bs, rfl, hb⟩, hp2, hr2⟩
  have e' : cs.toList = [.int .u8 n0, .slice la ln lc, .slice ca cn cc] := e
  congr 1
  rw [← e']
end
end Go.Proofs.Ytekhoanjpnjaeaa

/- The last step of every law: the call returned true and changed nothing that was there. -/
namespace Go.Proofs.Ytekhoanjpnjaeaa
open Go.RowKit Go.WideShapes Go.ChangeShapes
section
variable {H : Type} {enc : TypeId × Value → H} {P : Program}
theorem trodAll_stays (hl : laidOutB P = true) {W W' : World} (hb : Below W.heap.size W W') : ∀ (ts : List TypeId) (vs : List Value) (ds : List (DataW H)) (ps : List MemPlace),
    (∀ t ∈ ts, P.readableRec t = true ∧ t < P.types.size) → (∀ p ∈ ps, p.block < W.heap.size) → DataW.TrodAll enc P W 0 (fun _ => true) true ts vs ds ps → DataW.TrodAll enc P W' 0 (fun b => decide (b < W.heap.size)) true ts vs ds ps
  | [], [], [], ps, _, _, h => h
  | t :: ts, v :: vs, d :: ds, ps, ht, hp, h => by
    obtain ⟨p, q, h1, h2, rfl⟩ := h
    exact ⟨p, q, Below.trod hl (ht t List.mem_cons_self).1 (ht t List.mem_cons_self).2 h1 hb (fun x hx => hp x (List.mem_append_left _ hx)),
      trodAll_stays hl hb ts vs ds q (fun t' h' => ht t' (List.mem_cons_of_mem _ h')) (fun x hx => hp x (List.mem_append_right _ hx)) h2, rfl⟩
theorem law_post {f : Func} {s : ChangeSpec} {B : TypeId} {W W' : World} {args : Array Value} {ds gs : List (DataW H)} {before : List MemPlace}
    (hl : laidOutB P = true) (hok : ∀ t ∈ f.params.toList, P.readableRec t = true ∧ t < P.types.size) (hv : s.vars = []) (hres : f.resultTypes = #[B]) (hB : P.underlying B = some .bool)
    (hW : DataW.Whole enc P f.params.toList s.vars false W args.toList ds gs before)
    (hfn : (s.fn H (ds ++ gs)).results = [.lit (.bool true)]) (hfa : (s.fn H (ds ++ gs)).args = ds) (hfv : (s.fn H (ds ++ gs)).vars = []) (hb : Below W.heap.size W W') :
    s.post enc P f false true false false W args (.bool true) W' := by
  obtain ⟨p, q, hA, hV, hps, hz, hn⟩ := hW
  rw [hv] at hV
  obtain ⟨rfl, rfl⟩ := trodVars_none hV
  have hlt : ∀ x ∈ p, x.block < W.heap.size := fun x hx => DataW.Whole.lt (show DataW.Whole enc P f.params.toList s.vars false W args.toList ds [] before from ⟨p, [], hA, by rw [hv]; exact hV, hps, hz, hn⟩) x (by rw [hps]; simpa using hx)
  refine ⟨ds, [], before, [], p, [], ⟨p, [], hA, by rw [hv]; exact hV, hps, hz, hn⟩, ?_, ?_, ?_, World.keptBut_mono (fun x hx => ⟨hx, ?_⟩) (hb.frame (· ∈ before)), fun h => by cases h⟩
  · rw [hfn, hres]
    exact ⟨[], [], shut_bool hB true, rfl, rfl⟩
  · rw [hfa]; exact trodAll_stays hl hb _ _ _ _ hok hlt hA
  · rw [hfv, hv]; rfl
  · rw [hps] at hx; simp at hx; exact Or.inr (Or.inl hx)

/-- The closed facts of a row, each by itself (one declaration for all of them wants too much memory). -/
theorem closed_of {P : Program} {f : FuncId} {fn : Func} {s : ChangeSpec} {c : OpenClaim}
    (k1 : c.wf (OpenSpec.ofChange s) = true) (k2 : laidOutB P = true) (k3 : mapsRowed P = true) (k4 : fn.params.all (P.readableRec ·) = true) (k5 : namedTie P c.named s.vars = true)
    (k6 : (c.stops == []) = true) (k7 : (P.stops == []) = true) (k8 : (c.knobs == []) = true) (k9 : (P.stopKnobs == []) = true)
    (k10 : (c.inPlace == P.inPlace f) = true) (k11 : (c.unfollowed == P.unfollowed f) = true) (k12 : (c.recurses == P.recurses f) = true) (k13 : (c.named == P.varsNamed f) = true)
    (k14 : (c.maps == (fn.params.toList ++ s.plain.varTypes P).any (P.mapsRec ·)) = true) (k15 : (c.ifaces == (fn.params.toList ++ s.plain.varTypes P).any (P.ifacesRec ·)) = true) (k16 : (c.mapsOut == P.mapsAmong fn.resultTypes.toList) = true)
    (k17 : (c.loops == (fn.params.toList ++ s.plain.varTypes P).any (P.loopsFrom ·)) = true) (k17b : (c.wideKeys == (fn.params.toList ++ s.plain.varTypes P ++ fn.resultTypes.toList).any (P.wideKeysFrom ·)) = true)
    (k18 : s.vars.all (P.varReadable ·) = true) (k19 : fn.resultTypes.all (fun t => P.readableRec t && decide (t < P.types.size)) = true) (k20 : (c.ifacesOut == fn.resultTypes.toList.any (P.ifacesRec ·)) = true) (k21 : (c.loopsOut == fn.resultTypes.toList.any (P.loopsFrom ·)) = true)
    (k22 : (c.plainKeys == P.plainKeys) = true) (k23 : c.shortTexts.isNone = true) (k23b : P.stopsHeard = true) (k24 : P.mayEnter = true) (k24b : (c.lifted == P.liftsFinal) = true) (k24c : (P.make == some c.make) = true)
    (k25 : c.domain.isEmpty = true ∧ (c.kinds == []) = true) (k26 : (c.pinned == c.pinnedBy) = true)
    (k27 : (c.veiled == (fn.params.toList ++ s.plain.varTypes P ++ fn.resultTypes.toList).any (P.veiledRec ·)) = true) (k28 : c.veiledFits P fn.params.toList (fn.params.toList ++ s.plain.varTypes P ++ fn.resultTypes.toList) = true) :
    joinedFacts P f fn s c = true := by
  unfold joinedFacts
  rw [k1, k2, k3, k4, k5, k6, k7, k8, k9, k10, k11, k12, k13, k14, k15, k16, k17, k17b, k18, k19, k20, k21, k22, k23, k23b, k24, k24b, k24c, if_pos k25.1, k25.2, k26, k27, k28]
  rfl
end
end Go.Proofs.Ytekhoanjpnjaeaa

/- Closed facts on the loaded program, each by itself: every row of this seat asks them. -/
namespace Go.Proofs.Ytekhoanjpnjaeaa
theorem kOwn : ownKnob Try.prog.godebug = none := by kernel_rfl
theorem kLaid : laidOutB Try.prog = true := by kernel_rfl
theorem kMaps : mapsRowed Try.prog = true := by kernel_rfl
theorem kStops : (Try.prog.stops == []) = true := by kernel_rfl
theorem kKnobs : (Try.prog.stopKnobs == []) = true := by kernel_rfl
theorem kKeys : (Rows.exprOpsRow.plainKeys == Try.prog.plainKeys) = true := by kernel_rfl
theorem kHeard : Try.prog.stopsHeard = true := by kernel_rfl
theorem kEnter : Try.prog.mayEnter = true := by kernel_rfl
theorem kMake : (Try.prog.make == some Rows.exprOpsRow.make) = true := by kernel_rfl
theorem kLift : (Rows.exprOpsRow.lifted == Try.prog.liftsFinal) = true := by kernel_rfl
end Go.Proofs.Ytekhoanjpnjaeaa

