/- When an entry by bits applies: plain. -/
import Derived.Test.YtemeppfikpafbaaGetW
import Derived.Test.YtemeppfikpafbaaPutW
import Derived.Test.YtemeppfikpafbaaSetC
namespace Go.Proofs.Ytemeppfikpafbaa
open Go.RowKit
theorem getC_bits {c i : Nat} (hi : i < 16) (h : c.testBit i = true) : getC (setCh c) (keyI i) = some (chI i) :=
  AscC.get (setCh_asc c) ((chI_mem hi).2 h)
/-- The entry that Put records. -/
def entB (c h u : Nat) (t v : Bool) : Ent := ⟨setCh c, holdM h, usL (setCh c) ((pick (ord16 t) u).map keyI), v⟩
theorem us_bits {c u : Nat} (hu : u &&& c = u) (o : List Nat) (ho : ∀ i ∈ o, i < 16) : usL (setCh c) ((pick o u).map keyI) = (pick o u).map chI := by
  unfold usL
  rw [List.map_map]
  refine List.map_congr_left fun i hi => ?_
  unfold pick at hi
  obtain ⟨h1, h2⟩ := List.mem_filter.1 hi
  have h3 : c.testBit i = true := by
    rw [← hu, Nat.testBit_and] at h2
    exact (Bool.and_eq_true_iff.1 h2).2
  simp only [Function.comp]
  rw [getC_bits (ho i h1) h3]
  rfl
theorem app_bits {c u a h k : Nat} (t v : Bool) (hu : u &&& c = u) (hu' : u < 65536) (ha : a < 65536) (hh : h < 65536) (hk : k < 65536) :
    appB (entB c h u t v) (setCh a) (holdM k) = (decide (h = k) && (decide (a &&& c = a) && decide (u &&& a = u))) := by
  unfold appB entB
  dsimp only
  rw [us_bits hu _ (fun i hi => (mem_ord16 t i).1 hi)]
  congr 1
  · exact decide_eq_decide.2 (holdM_inj hh hk)
  · congr 1
    · refine decide_eq_decide.2 ?_
      rw [← sub_bits ha, List.length_eq_zero_iff]
      unfold minusL
      rw [List.filter_eq_nil_iff]
      constructor
      · intro h x hx
        have := h x hx
        simpa using this
      · intro h x hx
        simpa using h x hx
    · rw [Bool.eq_iff_iff, decide_eq_true_iff, ← sub_bits hu', Bool.not_eq_true', List.any_eq_false]
      constructor
      · intro h x hx
        obtain ⟨i, hi, h1, rfl⟩ := mem_setCh.1 hx
        have := h (chI i) (List.mem_map_of_mem ((mem_pick (mem_ord16 t)).2 ⟨hi, h1⟩))
        simpa using this
      · intro h x hx
        obtain ⟨i, hi, rfl⟩ := List.mem_map.1 hx
        obtain ⟨h1, h2⟩ := (mem_pick (mem_ord16 t)).1 hi
        simpa using h (chI i) (mem_setCh.2 ⟨i, h1, h2, rfl⟩)
/-- The messages that were built, sorted. -/
theorem srt_bits (b : Nat) (t : Bool) : srtM ((pick (ord16 t) b).map msgI) = holdM b := by
  have hn : ((pick (ord16 t) b).map msgI).Nodup := by
    have h : (pick (ord16 t) b).Nodup := List.Pairwise.filter _ (by cases t <;> decide)
    rw [List.Nodup, List.pairwise_map]
    exact h.imp fun hne e => hne (msgI_inj e)
  refine asc_unique ltM_irrefl (fun _ _ _ => ltM_trans) (cmpM_by.sorted _ hn) (holdM_asc b) fun x => ?_
  rw [mem_srtM, mem_holdM, List.mem_map]
  constructor
  · rintro ⟨i, hi, rfl⟩
    obtain ⟨h1, h2⟩ := (mem_pick (mem_ord16 t)).1 hi
    exact ⟨i, h1, h2, rfl⟩
  · rintro ⟨i, h1, h2, rfl⟩
    exact ⟨i, (mem_pick (mem_ord16 t)).2 ⟨h1, h2⟩, rfl⟩
theorem asc_ne {l : List M3} (h : l.Pairwise ltM) : ∀ j (k : j + 1 < l.length), l[j + 1] ≠ l[j] := by
  intro j k e
  have hp := List.pairwise_iff_getElem.1 h j (j + 1) (by omega) k (by omega)
  rw [e] at hp
  exact ltM_irrefl _ hp
theorem keys_in {c u : Nat} (hu : u &&& c = u) (t : Bool) : ∀ k ∈ (pick (ord16 t) u).map keyI, ∃ x ∈ setCh c, x.k = k := by
  intro k hk
  obtain ⟨i, hi, rfl⟩ := List.mem_map.1 hk
  obtain ⟨h1, h2⟩ := (mem_pick (mem_ord16 t)).1 hi
  rw [← hu, Nat.testBit_and] at h2
  exact ⟨chI i, (chI_mem h1).2 (Bool.and_eq_true_iff.1 h2).2, rfl⟩
theorem holdM_zero : holdM 0 = [] := by decide
end Go.Proofs.Ytemeppfikpafbaa
