/- The cache and the reference's list of entries: plain laws of CachePlays. -/
import Derived.Test.YtemeppfikpafbaaLimP
namespace Go.Proofs.Ytemeppfikpafbaa
open Go.RowKit
/-- An entry of the reference: sets by bits. -/
structure RE where
  c : Nat
  h : Nat
  u : Nat
  v : Bool
instance : Inhabited RE := ⟨⟨0, 0, 0, false⟩⟩
def eC (x : RE) : List Value := [.int .u16 x.c, .int .u16 x.h, .int .u16 x.u, .bool x.v]
theorem eC_len (x : RE) : (eC x).length = 4 := rfl
structure RE.Ok (x : RE) : Prop where
  c : x.c < 65536
  h : x.h < 65536
  u : x.u < 65536
  s : x.u &&& x.c = x.u
def hitR (a k : Nat) (x : RE) : Bool := decide (x.h = k) && (decide (x.u &&& a = x.u) && decide (a &&& x.c = a))
def refGet (l : List RE) (a k : Nat) : Option RE := l.reverse.find? (hitR a k)
def entR (p : RE × Bool) : Ent := entB p.1.c p.1.h p.1.u p.2 p.1.v
theorem find_congr {α : Type} {p q : α → Bool} : ∀ {l : List α}, (∀ x ∈ l, p x = q x) → l.find? p = l.find? q
  | [], _ => rfl
  | a :: l, h => by
    rw [List.find?_cons, List.find?_cons, h a (List.mem_cons_self ..), find_congr (l := l) fun x hx => h x (List.mem_cons_of_mem _ hx)]
theorem app_ref {p : RE × Bool} (h : p.1.Ok) {a k : Nat} (ha : a < 65536) (hk : k < 65536) : appB (entR p) (setCh a) (holdM k) = hitR a k p.1 := by
  unfold entR hitR
  rw [app_bits p.2 p.1.v h.s h.u ha h.h hk, Bool.and_comm (decide (a &&& p.1.c = a))]
theorem get_ref (L : List (RE × Bool)) (hok : ∀ p ∈ L, p.1.Ok) {a k : Nat} (ha : a < 65536) (hk : k < 65536) :
    getE (L.map entR) (setCh a) (holdM k) = (L.reverse.find? fun p => hitR a k p.1).map entR := by
  unfold getE
  rw [← List.map_reverse, List.find?_map]
  congr 1
  exact find_congr fun p hp => app_ref (hok p (List.mem_reverse.1 hp)) ha hk
theorem get_ref' (L : List (RE × Bool)) (a k : Nat) : refGet (L.map (·.1)) a k = (L.reverse.find? fun p => hitR a k p.1).map (·.1) := by
  unfold refGet
  rw [← List.map_reverse, List.find?_map]
  rfl
/-- The answer of both. -/
def ansR (o : Option RE) : Bool × Bool := match o with
  | some x => (x.v, true)
  | none => (false, false)
theorem get_same (L : List (RE × Bool)) (hok : ∀ p ∈ L, p.1.Ok) {a k : Nat} (ha : a < 65536) (hk : k < 65536) (hits : Int) :
    getR (getE (L.map entR) (setCh a) (holdM k)) = .tuple #[.bool (ansR (refGet (L.map (·.1)) a k)).1, .bool (ansR (refGet (L.map (·.1)) a k)).2] ∧
    getH (getE (L.map entR) (setCh a) (holdM k)) hits = if (ansR (refGet (L.map (·.1)) a k)).2 = true then hits + 1 else hits := by
  rw [get_ref L hok ha hk, get_ref']
  cases L.reverse.find? fun p => hitR a k p.1 with
  | none => exact ⟨rfl, rfl⟩
  | some p => exact ⟨rfl, rfl⟩
theorem limE_map {α β : Type} (f : α → β) (lim : Int) (L : List α) : limE lim (L.map f) = (limE lim L).map f := by
  unfold limE
  rw [List.length_map]
  split
  · rfl
  · rw [List.map_drop]
theorem limE_mem {α : Type} {lim : Int} {L : List α} {x : α} (h : x ∈ limE lim L) : x ∈ L := by
  unfold limE at h
  split at h
  · exact h
  · exact List.mem_of_mem_drop h
theorem refGet_at {l : List RE} {a k i : Nat} (hi : i < l.length) (ha : hitR a k l[i] = true) (hn : ∀ e ∈ l.drop (i + 1), hitR a k e = false) : refGet l a k = some l[i] := by
  unfold refGet
  have e1 : l.reverse = (l.drop (i + 1)).reverse ++ (l[i] :: (l.take i).reverse) := by
    conv => lhs; rw [← List.take_append_drop i l]
    rw [List.drop_eq_getElem_cons hi, List.reverse_append, List.reverse_cons, List.append_assoc]
    rfl
  rw [e1, List.find?_append, List.find?_eq_none.2 (fun x hx => by rw [hn x (List.mem_reverse.1 hx)]; simp), List.find?_cons]
  simp [ha]
theorem refGet_none {l : List RE} {a k : Nat} (hn : ∀ e ∈ l, hitR a k e = false) : refGet l a k = none := by
  unfold refGet
  rw [List.find?_eq_none]
  intro x hx
  rw [hn x (List.mem_reverse.1 hx)]; simp
end Go.Proofs.Ytemeppfikpafbaa
