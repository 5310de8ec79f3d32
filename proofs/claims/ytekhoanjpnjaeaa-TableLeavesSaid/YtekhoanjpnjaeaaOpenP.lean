/- Lists of pairs and pairs that came in as arguments, opened; law09.few (36). -/
import Derived.Test.YtekhoanjpnjaeaaOpenT
import Derived.Test.YtekhoanjpnjaeaaTV
import Derived.OpenShut
namespace Go.Proofs.Ytekhoanjpnjaeaa
open Go.RowKit Go.ChangeShapes Go.WideShapes
section
variable {H : Type} {enc : TypeId × Value → H} {w : World} {base : Nat} {spare : Nat → Bool} {held : Bool}
def cellsP (x : Int × Int) : List Value := [.int .i64 x.1, .int .i64 x.2]
theorem flatP_eq (l : List (Int × Int)) : l.flatMap cellsP = flat2 l := by
  induction l with
  | nil => rfl
  | cons x xs ih => rw [List.flatMap_cons, ih]; rfl
theorem twoP_of {l : List Value} (hl : l.length = 2) {a b : Value} (h0 : l[0]? = some a) (h1 : l[1]? = some b) : l = [a, b] := by
  match l, hl with
  | [_, _], _ => simp_all
set_option maxRecDepth 100000 in
theorem pair_elem (fuel : Nat) (cs : List Value) (y : DataW H × List MemPlace) (h : DataW.trod enc Try.prog w base spare held fuel 66 cs = some y) : ∃ x : Int × Int, (I64 x.1 ∧ I64 x.2) ∧ cs = cellsP x := by
  obtain ⟨xs, n, _, _, hl, hxl, hf⟩ := DataW.trod_array Try.underlying66 h
  rw [cells66] at hl
  have f0 := hf 0 (by omega)
  have f1 := hf 1 (by omega)
  have g : ∀ j, j < 2 → ∃ z, xs[j]? = some z := fun j hj => ⟨_, List.getElem?_eq_getElem (by omega)⟩
  obtain ⟨z0, e0⟩ := g 0 (by omega)
  obtain ⟨z1, e1⟩ := g 1 (by omega)
  rw [e0, cellsT2] at f0
  rw [e1, cellsT2] at f1
  obtain ⟨n0, c0, _, w0⟩ := DataW.trod_int Try.underlying2 f0
  obtain ⟨n1, c1, _, w1⟩ := DataW.trod_int Try.underlying2 f1
  exact ⟨(n0, n1), ⟨in64_of w0, in64_of w1⟩, twoP_of hl (one_of (by simpa using c0)) (one_of (by simpa using c1))⟩
/-- A slice that came in is nil with no room, or has a place. -/
def NilA (v : Value) : Prop := ∀ a n cap, v = .slice a n cap → a = none → cap = 0
theorem open_nil {P : Program} {t e : TypeId} {v : Value} {d : DataW H} {ps : List MemPlace} (ht : P.underlying t = some (.slice e)) (hv : ∃ a len cap, v = .slice a len cap) (h : DataW.Trod enc P w base spare held t v d ps) : NilA v := by
  obtain ⟨va, vl, vc, rfl⟩ := hv
  obtain ⟨fuel, hf⟩ := h
  intro a n cap he hn
  cases he
  rcases Deep.open_slice ht hf with ⟨h0, _⟩ | ⟨a', len, cap', _, _, _, _, hcs, _⟩
  · have h0' : Value.slice va vl vc = .slice none 0 0 := by simpa [Value.cells] using h0
    cases h0'; rfl
  · have hc' : Value.slice va vl vc = .slice (some a') len cap' := by simpa [Value.cells] using hcs
    cases hc'; cases hn
end
theorem take_len40 (l : List (Int × Int)) : (l.take 40).length = min l.length 40 := by rw [List.length_take, Nat.min_comm]

theorem slice57 (a : Option Addr) (n cap p : Nat) (hp : p ≤ n) (hc : n ≤ cap) (hnil : a = none → cap = 0) : ∀ w, (Instr.slice 57 (.slice a n cap) none (some (.int .i64 (p : Int))) none).run Try.prog w = .ok (.slice a p cap) w := by
  intro w
  cases a with
  | none =>
    obtain rfl := hnil rfl
    obtain rfl : p = 0 := by omega
    simp [go_sem, sliced]
  | some ad =>
    simp [go_sem, sliced]
    omega
set_option maxRecDepth 100000 in
theorem few_any (S : Nat → Prop) (l : List (Int × Int)) (v : Value) (w : World) (_hl : l.length ≤ maxLen) (hnil : NilA v) (h : Row S w 2 l.length v (flat2 l)) :
    Calls Try.prog 36 #[v] w fun e w' => w' = w ∧ ∃ a' cap', e = .returned (.slice a' (l.take 40).length cap') ∧ Row S w 2 (l.take 40).length (.slice a' (l.take 40).length cap') (flat2 (l.take 40)) := by
  obtain ⟨a, cap, rfl, hcap⟩ := h.shape
  have HT := Lib.hid (show Row S w 2 (l.take 40).length (.slice a (l.take 40).length cap) (flat2 (l.take 40)) by
    have hle : (l.take 40).length ≤ l.length := by rw [List.length_take]; exact Nat.min_le_right _ _
    have := h.take hle
    rwa [← flat2_take'] at this)
  clear h
  have hle : (l.take 40).length ≤ l.length := by rw [List.length_take]; exact Nat.min_le_right _ _
  have hsl := slice57 a l.length cap (l.take 40).length hle hcap (hnil _ _ _ rfl)
  have hmn : min (l.length : Int) 40 = ((l.take 40).length : Int) := by rw [List.length_take]; omega
  generalize l.length = n at *
  generalize (l.take 40).length = p at *
  clear hnil
  go_enter Try.func36, Try.ntmps36
  go_wp2_with fail
  go_ret
  exact ⟨rfl, _, _, rfl, HT.out⟩
end Go.Proofs.Ytekhoanjpnjaeaa
