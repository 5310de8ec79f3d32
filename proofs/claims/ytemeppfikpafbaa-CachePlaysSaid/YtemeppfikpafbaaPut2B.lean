/- Put by bits, whole; repeated messages. -/
import Derived.Test.YtemeppfikpafbaaPut2W
import Derived.Test.YtemeppfikpafbaaAwkC
namespace Go.Proofs.Ytemeppfikpafbaa
open Go.RowKit
theorem srtM_weak (l : List M3) : (srtM l).Pairwise fun x y => ¬ ltM y x := by
  have h := cmpM_by
  have h1 : (srtM l).Pairwise (fun x y => (!(ltOf cmpM3) y x) = true) := by
    refine List.pairwise_mergeSort (fun a b c h1 h2 => ?_) (fun a b => ?_) l
    · rw [Bool.not_eq_true', h.ltOf'] at *
      intro h3
      by_cases e : ltM b a
      · exact h1 e
      · by_cases e' : ltM a b
        · exact h2 (h.trans _ _ _ h3 e')
        · have := h.tri a b e' e
          subst this
          exact h2 h3
    · rw [Bool.or_eq_true, Bool.not_eq_true', Bool.not_eq_true', h.ltOf', h.ltOf']
      by_cases e : ltM b a
      · right; intro e'; exact h.irrefl _ (h.trans _ _ _ e e')
      · left; exact e
  exact h1.imp fun {x y} h2 => by rw [Bool.not_eq_true', h.ltOf'] at h2; exact h2
theorem ne_nodup {l : List M3} (h : NEl (srtM l)) : l.Nodup := by
  have hw := List.pairwise_iff_getElem.1 (srtM_weak l)
  have h2 : (srtM l).Nodup := by
    rw [List.Nodup, List.pairwise_iff_getElem]
    intro p q hp hq hpq e
    have h3 := hw p (p + 1) hp (by omega) (by omega)
    have h4 : ¬ ltM (srtM l)[p] (srtM l)[p + 1] := by
      rw [e]
      rcases Nat.lt_or_ge (p + 1) q with hq' | hq'
      · exact hw (p + 1) q (by omega) hq hq'
      · have : q = p + 1 := by omega
        subst this
        exact ltM_irrefl _
    exact h p (by omega) (cmpM_by.tri _ _ h3 h4)
  exact (List.mergeSort_perm l _).nodup_iff.1 h2
theorem putok_bits {c h u : Nat} (hu : u < 65536) (t1 t2 : Bool) : PutOk (setCh c) ((pick (ord16 t2) u).map keyI) ((pick (ord16 t1) h).map msgI) ↔ u &&& c = u := by
  constructor
  · intro hp
    rw [← sub_bits hu]
    intro x hx
    obtain ⟨i, hi, h1, rfl⟩ := mem_setCh.1 hx
    obtain ⟨y, hy, hk⟩ := hp.1 (keyI i) (List.mem_map_of_mem ((mem_pick (mem_ord16 t2)).2 ⟨hi, h1⟩))
    obtain ⟨j, hj, h2, rfl⟩ := mem_setCh.1 hy
    have := keyI_inj hk
    subst this
    exact hy
  · intro h0
    refine ⟨keys_in h0 t2, ?_⟩
    rw [srt_bits]
    exact fun j k => asc_ne (holdM_asc h) j k
/-- One message more, that is there already. -/
theorem not_twice {c h : Nat} (t1 : Bool) (ks : List K4) : ¬ PutOk (setCh c) ks ((pick (ord16 t1) (h ||| 1)).map msgI ++ [⟨0, 0, 7⟩]) := by
  intro hp
  have hn := ne_nodup hp.2
  rw [List.nodup_append] at hn
  refine hn.2.2 ⟨0, 0, 7⟩ (List.mem_map.2 ⟨0, (mem_pick (mem_ord16 t1)).2 ⟨by omega, ?_⟩, rfl⟩) ⟨0, 0, 7⟩ (List.mem_singleton.2 rfl) rfl
  rw [Nat.testBit_or]
  simp
theorem put2_bits (S0 : Nat → Prop) (CB : Nat) (lim hits : Int) (E : List Ent) (M : Nat) (cv : Value) (raw : List RawE) (c h u : Nat) (t1 t2 : Bool) (sv hv kv : Value) (vd : Bool) (w : World)
    (hC : CState S0 w CB lim hits E M cv raw) (hM : M ≤ w.heap.size) (hS0 : ∀ b, w.heap.size ≤ b → S0 b)
    (hs : Row (fun b => M ≤ b ∧ S0 b) w 7 (setCh c).length sv (flatC chC (setCh c)))
    (hl : Row anyB w 3 ((pick (ord16 t1) h).map msgI).length hv (flatC mC ((pick (ord16 t1) h).map msgI))) (hn : NilA hv)
    (hk : Row anyB w 4 ((pick (ord16 t2) u).map keyI).length kv (flatC kC ((pick (ord16 t2) u).map keyI))) (hlim : (E.length : Int) ≤ lim) (hEl : E.length ≤ 100) :
    Calls Try.prog 37 #[.pointer (some ⟨CB, 0, none⟩), .agg #[sv], hv, kv, .bool vd] w (PutR S0 CB lim hits E M cv raw (setCh c) ((pick (ord16 t1) h).map msgI) ((pick (ord16 t2) u).map keyI) vd w) :=
  put2_any S0 CB lim hits E M cv raw (setCh c) _ _ sv hv kv vd w hC hM hS0 (setCh_asc c) hs (by have := setCh_len c; omega) hl hn (by rw [List.length_map]; have := pick_len (ord16_len t1) h; omega) hk (by rw [List.length_map]; have := pick_len (ord16_len t2) u; omega) hlim hEl
theorem ent_bits (c h u : Nat) (t1 t2 v : Bool) : (⟨setCh c, srtM ((pick (ord16 t1) h).map msgI), usL (setCh c) ((pick (ord16 t2) u).map keyI), v⟩ : Ent) = entB c h u t2 v := by rw [srt_bits]; rfl
end Go.Proofs.Ytemeppfikpafbaa
