/- table.find (76), Len (33), Get (31). -/
import Derived.Test.YtekhoanjpnjaeaaFind
namespace Go.Proofs.Ytekhoanjpnjaeaa
open Go.RowKit

theorem find_any (S : Nat → Prop) (l : List (Int × Int)) (k : Int) (v : Value) (w : World) (hl : l.length < 4294967296) (hasc : Asc l) (h : Row S w 2 l.length v (flat2 l)) :
    Calls Try.prog 76 #[.agg #[v], .int .i64 k] w fun e w' => Below w.heap.size w w' ∧ ∃ p, PlaceOf l k p ∧ e = .returned (.tuple #[.int .i64 p, .bool (l[p]?.map (·.1) == some k)]) := by
  obtain ⟨a, cap, rfl, hcap⟩ := h.shape
  have HR := Lib.hid h; clear h
  have HA := Lib.hid hasc; clear hasc
  go_enter Try.func76, Try.ntmps76
  go_wp2_with fail
  generalize hw2 : w.alloc (.cells #[.slice a l.length cap] 54) = w2
  have HB := Lib.hid (show Below w.heap.size w w2 by rw [← hw2]; exact (Below.refl _ _).alloc (Nat.le_refl _) _)
  clear hw2
  refine (search_any S l k (.slice a l.length cap) w2 hl HA.out (HR.out.below HB.out)).mono ?_
  rintro e w3 ⟨hb3, p, hp, rfl⟩
  have HB3 := Lib.hid (And.intro (HB.out.trans (hb3.mono HB.out.size)) hp); clear hb3 hp
  generalize hq : (l[p]?.map (·.1) == some k) = q
  have HQ := Lib.hid hq; clear hq
  go_wp2_with fail
  go_ret2
  exact ⟨HB3.out.1, p, HB3.out.2, by rw [HQ.out]; rfl⟩

theorem len_any (n cap : Nat) (a : Option Addr) (w : World) :
    Calls Try.prog 33 #[.agg #[.slice a n cap]] w fun e w' => e = .returned (.int .i64 n) ∧ w' = w.alloc (.cells #[.slice a n cap] 54) := by
  go_enter Try.func33, Try.ntmps33
  go_wp2_with fail
  go_ret
  exact ⟨rfl, rfl⟩

/-- What Get answers. -/
def getL (l : List (Int × Int)) (k : Int) : Option Int := (l.find? fun x => x.1 == k).map (·.2)
theorem getL_found {l : List (Int × Int)} {k : Int} {p : Nat} (hp : PlaceOf l k p) (h : p < l.length) (e : l[p].1 = k) : getL l k = some l[p].2 := by
  unfold getL
  have : l.find? (fun x => x.1 == k) = some l[p] := by
    rw [List.find?_eq_some_iff_getElem]
    exact ⟨by simp [e], p, h, rfl, fun j hj => by have := hp.2.1 j (by omega) hj; simp; omega⟩
  rw [this]; rfl
theorem getL_none {l : List (Int × Int)} {k : Int} {p : Nat} (hp : PlaceOf l k p) (ha : Asc l) (e : l[p]?.map (·.1) ≠ some k) : getL l k = none := by
  unfold getL
  have : l.find? (fun x => x.1 == k) = none := by
    rw [List.find?_eq_none]
    intro x hx
    obtain ⟨i, hi, rfl⟩ := List.getElem_of_mem hx
    simp only [beq_iff_eq]
    intro he
    by_cases h1 : i < p
    · have := hp.2.1 i hi h1; omega
    · by_cases h2 : i = p
      · subst h2; exact e (by rw [List.getElem?_eq_getElem hi]; simp [he])
      · have h3 := List.pairwise_iff_getElem.1 ha p i (by omega) hi (by omega)
        have := hp.2.2 p (by omega) (Nat.le_refl _)
        omega
  rw [this]; rfl

theorem get_any (S : Nat → Prop) (l : List (Int × Int)) (k : Int) (v : Value) (w : World) (hl : l.length < 4294967296) (hasc : Asc l) (h : Row S w 2 l.length v (flat2 l)) :
    Calls Try.prog 31 #[.agg #[v], .int .i64 k] w fun e w' => Below w.heap.size w w' ∧ e = .returned (.tuple #[.int .i64 ((getL l k).getD 0), .bool (getL l k).isSome]) := by
  obtain ⟨a, cap, rfl, hcap⟩ := h.shape
  have HR := Lib.hid h; clear h
  have HA := Lib.hid hasc; clear hasc
  go_enter Try.func31, Try.ntmps31
  go_wp2_with fail
  generalize hw2 : w.alloc (.cells #[.slice a l.length cap] 54) = w2
  have HB := Lib.hid (show Below w.heap.size w w2 by rw [← hw2]; exact (Below.refl _ _).alloc (Nat.le_refl _) _)
  have s0 : w2.cell? ⟨w.heap.size, 0, none⟩ = some (.slice a l.length cap) := by rw [← hw2]; unfold World.cell?; rw [alloc_last]; rfl
  clear hw2
  refine (find_any S l k (.slice a l.length cap) w2 hl HA.out (HR.out.below HB.out)).mono ?_
  rintro e w3 ⟨hb3, p, hp, rfl⟩
  have r0 := below_cell hb3 s0
  have HB3 := Lib.hid (And.intro (HB.out.trans (hb3.mono HB.out.size)) hp); clear hb3 hp s0
  by_cases hq : l[p]?.map (·.1) = some k
  · have hin : p < l.length := by
      by_cases h : p < l.length
      · exact h
      · rw [List.getElem?_eq_none (by omega)] at hq; cases hq
    have hk : l[p].1 = k := by rw [List.getElem?_eq_getElem hin] at hq; simpa using hq
    have HG := Lib.hid (getL_found HB3.out.2 hin hk)
    have t1 : (l[p]?.map (·.1) == some k) = true := by simp [hq]
    rw [t1]
    clear hq t1 hk
    obtain ⟨b, off, rfl, _, _, hc⟩ := HR.out.at (by omega)
    have g1 := below_cell HB3.out.1 (hc _ _ (flat2_get l p hin).2)
    rw [← Nat.add_assoc] at g1
    clear hc
    go_wp2_with fail
    go_ret2
    exact ⟨HB3.out.1, by rw [HG.out]; rfl⟩
  · have HG := Lib.hid (getL_none HB3.out.2 HA.out hq)
    have t1 : (l[p]?.map (·.1) == some k) = false := by simp [hq]
    rw [t1]
    clear hq t1
    go_wp2_with fail
    go_ret2
    exact ⟨HB3.out.1, by rw [HG.out]; rfl⟩
end Go.Proofs.Ytekhoanjpnjaeaa
