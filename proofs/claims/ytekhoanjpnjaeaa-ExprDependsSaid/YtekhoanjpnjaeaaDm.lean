/- Texts DepV, laid together. -/
import Derived.Deep.AppendLies
import Derived.Test.YtekhoanjpnjaeaaDa
import Derived.Test.YtekhoanjpnjaeaaDd
import Derived.Test.YtekhoanjpnjaeaaDh
import Derived.Test.YtekhoanjpnjaeaaDk
import Derived.Test.YtekhoanjpnjaeaaDl
/- Small facts for the walk of ExprDepends. -/
namespace Go.Proofs.Ytekhoanjpnjaeaa
open Go.RowKit
theorem blk_grow {W W' : World} {B XB n : Nat} {e t : TypeId} {v : Value} {xs : List Value} {c : Array Value} {fr : Nat × Nat} (ho : W.ownsRow B e 1 v n xs) (hx : W.heap[XB]? = some (.cells c t fr)) (ht : t ≠ e) (hg : W.grownBy W' v.ownBlock) : W'.heap[XB]? = some (.cells c t fr) := by
  refine (hg.block XB (blk_ltD hx) (fun h => ?_)).trans hx
  obtain ⟨cur, h2⟩ := owns_blk ho h.symm
  rw [hx] at h2
  injection h2 with h2
  injection h2 with _ h3 _
  exact ht h3
theorem row_lit {W : World} {B n size : Nat} {cs : Array Value} {t : TypeId} {fr : Nat × Nat} (h : W.heap[B]? = some (.cells cs t fr)) (hs : cs.size = n * size) : Row (fun _ => True) W size n (.slice (some ⟨B, 0, none⟩) n n) cs.toList :=
  ⟨by rw [Array.length_toList]; exact hs, _, _, rfl, Nat.le_refl _, fun _ => ⟨B, 0, rfl, trivial, fun i u hi => by
    rw [Nat.zero_add, cell_of_row W B i cs t fr h]
    simpa using hi⟩⟩
def tabsD (vn now : Int) (m : Nat) : List (List (Int × Int)) := (List.range m).map fun (i : Nat) => ofL [(vn, (i : Int)), (0, now)]
theorem tabsD_succ (vn now : Int) (m : Nat) : tabsD vn now (m + 1) = tabsD vn now m ++ [ofL [(vn, (m : Int)), (0, now)]] := by
  unfold tabsD
  rw [List.range_succ, List.map_append]
  rfl
theorem tabsD_len (vn now : Int) (m : Nat) : (tabsD vn now m).length = m := by unfold tabsD; rw [List.length_map, List.length_range]
theorem tab_push {S : Nat → Prop} {W : World} {bs : List Value} {tb : List (List (Int × Int))} {T : List (Int × Int)} {x : Value} (h : ∀ i (h : i < tb.length), ∃ y, bs[i]? = some y ∧ Row S W 2 tb[i].length y (flat2 tb[i])) (hl : bs.length = tb.length) (hx : Row S W 2 T.length x (flat2 T)) :
    ∀ i (h : i < (tb ++ [T]).length), ∃ y, (bs ++ [x])[i]? = some y ∧ Row S W 2 (tb ++ [T])[i].length y (flat2 (tb ++ [T])[i]) := fun i hi => by
  by_cases hlt : i < tb.length
  · obtain ⟨y, h1, h2⟩ := h i hlt
    refine ⟨y, by rw [List.getElem?_append_left (by omega)]; exact h1, ?_⟩
    rw [List.getElem_append_left hlt]
    exact h2
  · rw [List.length_append, List.length_singleton] at hi
    obtain rfl : i = tb.length := by omega
    refine ⟨x, by rw [← hl, List.getElem?_append_right (Nat.le_refl _), Nat.sub_self]; rfl, ?_⟩
    rw [List.getElem_append_right (Nat.le_refl _)]
    simp only [Nat.sub_self, List.getElem_cons_zero]
    exact hx
theorem tab_new {EB : Nat} {w5 W W' : World} {cs : Array Value} {nv vv tv bv x : Value} {ns vs ts bs : List Value} {tb : List (List (Int × Int))} {T : List (Int × Int)} (h : EnvB EB w5 W cs nv vv tv bv ns vs ts bs tb) (hr : Row (fun b => W.heap.size ≤ b) W' 2 T.length x (flat2 T)) : Row (TB EB nv vv tv bv) W' 2 T.length x (flat2 T) :=
  hr.mono (fun b hb => ⟨by have := h.ns'; have hb : W.heap.size ≤ b := hb; omega, fun e => by have := (h.on.lt b e).2; have hb : W.heap.size ≤ b := hb; omega, fun e => by have := (h.ov.lt b e).2; have hb : W.heap.size ≤ b := hb; omega, fun e => by have := (h.ot.lt b e).2; have hb : W.heap.size ≤ b := hb; omega, fun e => by have := (h.ob.lt b e).2; have hb : W.heap.size ≤ b := hb; omega⟩) (fun _ _ _ _ h => h)
theorem owns_nilD {w : World} {B : Nat} {e : TypeId} {n size : Nat} {v : Value} {xs : List Value} (h : w.ownsRow B e size v n xs) : NilD v := fun a n' cap e0 ha => by
  obtain ⟨_, h | ⟨g, c, cur, h, _⟩⟩ := h
  · have h1 := h.1; rw [e0] at h1; injection h1
  · rw [e0] at h; injection h with h1; rw [ha] at h1; cases h1
theorem ones_str (l : List ByteArray) : ∀ u ∈ l.map Value.string, u.oneCell' = true := fun u hu => by obtain ⟨x, _, rfl⟩ := List.mem_map.1 hu; rfl
theorem ones_int (l : List Int) : ∀ u ∈ l.map (Value.int .i64), u.oneCell' = true := fun u hu => by obtain ⟨x, _, rfl⟩ := List.mem_map.1 hu; rfl
theorem EnvB.onesB {EB : Nat} {w5 W : World} {cs : Array Value} {nv vv tv bv : Value} {ns vs ts bs : List Value} {tb : List (List (Int × Int))} (h : EnvB EB w5 W cs nv vv tv bv ns vs ts bs tb) : ∀ u ∈ bs, u.oneCell' = true := fun u hu => by
  obtain ⟨i, hi, rfl⟩ := List.getElem_of_mem hu
  obtain ⟨x, h1, h2⟩ := h.tr i (by rw [← h.tl]; exact hi)
  obtain ⟨a, c, rfl, _⟩ := h2.shape
  rw [List.getElem?_eq_getElem hi] at h1
  rw [Option.some.inj h1]
  rfl
/-- The tables of an older environment stand apart from a newer one. -/
theorem tab_old {EB EB2 : Nat} {w5 W W' w6 : World} {cs cs' : Array Value} {nv vv tv bv nv' vv' tv' bv' : Value} {ns vs ts bs ns' vs' ts' bs' : List Value} {tb tb' : List (List (Int × Int))} (h : EnvB EB w5 W cs nv vv tv bv ns vs ts bs tb) (he : EB2 = W.heap.size) (hg : EnvB EB2 w6 W' cs' nv' vv' tv' bv' ns' vs' ts' bs' tb') (hb : Below W.heap.size W W') :
    ∀ i (h : i < tb.length), ∃ x, bs[i]? = some x ∧ Row (TB EB2 nv' vv' tv' bv') W' 2 tb[i].length x (flat2 tb[i]) := fun i hi => by
  obtain ⟨x, h1, h2⟩ := h.tr i hi
  refine ⟨x, h1, h2.mono2 (by omega) (fun b off u _ hc => ?_)⟩
  have hlt : b < W.heap.size := World.block_lt_of_cell? W ⟨b, off, none⟩ hc
  exact ⟨⟨by omega, fun e => by have := (hg.on.lt b e).1; omega, fun e => by have := (hg.ov.lt b e).1; omega, fun e => by have := (hg.ot.lt b e).1; omega, fun e => by have := (hg.ob.lt b e).1; omega⟩, (more_of hb).cell hc⟩
theorem wrap_in64 (n : Int) : In64 (IntKind.i64.wrap n) := by
  unfold In64
  rw [IntKind.wrap_i64]
  omega
def valsD (vn : Int) (j : Nat) : List Int := (List.range j).map fun (i : Nat) => IntKind.i64.wrap ((i : Int) * vn)
theorem valsD_succ (vn : Int) (j : Nat) : valsD vn (j + 1) = valsD vn j ++ [IntKind.i64.wrap ((j : Int) * vn)] := by
  unfold valsD
  rw [List.range_succ, List.map_append]
  rfl
theorem valsD_len (vn : Int) (j : Nat) : (valsD vn j).length = j := by unfold valsD; rw [List.length_map, List.length_range]
theorem lies_own {q v : Value} {gg n cap H : Nat} (hq : q = .slice (some ⟨gg, 0, none⟩) n cap) (h : v.ownBlock = some gg ∨ gg = H) : ∀ z, q.ownBlock = some z → v.ownBlock = some z ∨ z = H := fun z hz => by
  subst hq
  have e1 : gg = z := by injection hz
  subst e1
  exact h
theorem vals_in (vn : Int) (j : Nat) : ∀ v ∈ valsD vn j, In64 v := fun v hv => by
  unfold valsD at hv
  obtain ⟨i, _, rfl⟩ := List.mem_map.1 hv
  exact wrap_in64 _
theorem tabs_each {vn now : Int} {m : Nat} {T : List (Int × Int)} (h : T ∈ tabsD vn now m) : ∃ i, i < m ∧ T = ofL [(vn, (i : Int)), (0, now)] := by
  unfold tabsD at h
  obtain ⟨i, hi, rfl⟩ := List.mem_map.1 h
  exact ⟨i, List.mem_range.1 hi, rfl⟩
theorem tab_in {l : List (Int × Int)} (h : ∀ x ∈ l, In64 x.1 ∧ In64 x.2) : ∀ x ∈ ofL l, In64 x.1 ∧ In64 x.2 := fun x hx => h x (mem_of hx)
theorem tabs_in {vn now : Int} {m : Nat} (hv : In64 vn) (hn : In64 now) (hm : m ≤ 60) : ∀ T ∈ tabsD vn now m, (T.length < 4294967296 ∧ Asc T) ∧ ∀ x ∈ T, In64 x.1 ∧ In64 x.2 := fun T hT => by
  obtain ⟨i, hi, rfl⟩ := tabs_each hT
  refine ⟨⟨Nat.lt_of_le_of_lt (ofL_len _) (by simp), asc_of _⟩, tab_in (fun x hx => ?_)⟩
  simp only [List.mem_cons, List.not_mem_nil, or_false] at hx
  rcases hx with rfl | rfl
  · exact ⟨hv, by unfold In64; dsimp only; omega⟩
  · exact ⟨by unfold In64; dsimp only; omega, hn⟩
end Go.Proofs.Ytekhoanjpnjaeaa

