/- The cache laws' awake (35). -/
import Derived.Test.YtemeppfikpafbaaBitE
namespace Go.Proofs.Ytemeppfikpafbaa
open Go.RowKit
/-- What set, messages and keys make, as the contracts of Put and Get want it. -/
theorem set_row (b : Nat) (w : World) : Calls Try.prog 38 #[.int .u16 b] w fun e w' => (∃ v, e = .returned (.agg #[v]) ∧ Row (fun x => w.heap.size ≤ x) w' 7 (setCh b).length v (flatC chC (setCh b))) ∧ Below w.heap.size w w' :=
  (set_any b w).mono fun _ _ h => ⟨by obtain ⟨v, e, ho⟩ := h.1; exact ⟨v, e, Row.of_owns ho⟩, h.2⟩
theorem u16_nat {n : Int} (h : (Lit.int .u16 n).wf = true) : ∃ k : Nat, n = k ∧ k < 65536 := by
  simp [Lit.wf, IntKind.min, IntKind.max, IntKind.signed, IntKind.bits] at h
  exact ⟨n.toNat, by omega, by omega⟩
theorem srtM_nil : srtM [] = [] := by unfold srtM; simp
theorem put_bits (S0 : Nat → Prop) (CB : Nat) (lim hits : Int) (E : List Ent) (M : Nat) (cv : Value) (raw : List RawE) (c h u : Nat) (t1 t2 : Bool) (sv hv kv : Value) (vd : Bool) (w : World)
    (hC : CState S0 w CB lim hits E M cv raw) (hM : M ≤ w.heap.size) (hS0 : ∀ b, w.heap.size ≤ b → S0 b)
    (hs : Row (fun b => M ≤ b ∧ S0 b) w 7 (setCh c).length sv (flatC chC (setCh c)))
    (hl : Row anyB w 3 ((pick (ord16 t1) h).map msgI).length hv (flatC mC ((pick (ord16 t1) h).map msgI))) (hn : NilA hv)
    (hk : Row anyB w 4 ((pick (ord16 t2) u).map keyI).length kv (flatC kC ((pick (ord16 t2) u).map keyI))) (hu : u &&& c = u) (hlim : (E.length : Int) + 1 ≤ lim) (hEl : E.length ≤ 100) :
    Calls Try.prog 37 #[.pointer (some ⟨CB, 0, none⟩), .agg #[sv], hv, kv, .bool vd] w fun e w' => (e = .returned (.int .i64 0) ∧ ∃ cv' raw', CState S0 w' CB lim hits (E ++ [entB c h u t2 vd]) w'.heap.size cv' raw') ∧ Below CB w w' := by
  have := put_any S0 CB lim hits E M cv raw (setCh c) _ _ sv hv kv vd w hC hM hS0 (setCh_asc c) hs (by have := setCh_len c; omega) hl hn (by rw [List.length_map]; have := pick_len (ord16_len t1) h; omega) (asc_ne (show (srtM ((pick (ord16 t1) h).map msgI)).Pairwise ltM by rw [srt_bits]; exact holdM_asc h)) hk (by rw [List.length_map]; have := pick_len (ord16_len t2) u; omega) (keys_in hu t2) hlim hEl
  rw [srt_bits] at this
  exact this
theorem get_bits (S0 : Nat → Prop) (CB : Nat) (lim hits : Int) (E : List Ent) (M : Nat) (cv : Value) (raw : List RawE) (a h : Nat) (t1 : Bool) (sv hv : Value) (w : World)
    (hC : CState S0 w CB lim hits E M cv raw) (hs : Row anyB w 7 (setCh a).length sv (flatC chC (setCh a)))
    (hl : Row anyB w 3 ((pick (ord16 t1) h).map msgI).length hv (flatC mC ((pick (ord16 t1) h).map msgI))) (hn : NilA hv) (hEl : E.length ≤ 1000) (hh : 0 ≤ hits ∧ hits ≤ 100000) :
    Calls Try.prog 42 #[.pointer (some ⟨CB, 0, none⟩), .agg #[sv], hv] w fun e w' => (e = .returned (getR (getE E (setCh a) (holdM h))) ∧ CState S0 w' CB lim (getH (getE E (setCh a) (holdM h)) hits) E M cv raw) ∧ Below CB w w' := by
  have := get42_any S0 CB lim hits E M cv raw (setCh a) _ sv hv w hC (setCh_asc a) hs (by have := setCh_len a; omega) hl hn (by rw [List.length_map]; have := pick_len (ord16_len t1) h; omega) (asc_ne (show (srtM ((pick (ord16 t1) h).map msgI)).Pairwise ltM by rw [srt_bits]; exact holdM_asc h)) hEl hh
  rw [srt_bits] at this
  exact this
theorem row_none3 (t : Bool) (w : World) : Row anyB w 3 ((pick (ord16 t) 0).map msgI).length (.slice none 0 0) (flatC mC ((pick (ord16 t) 0).map msgI)) := by
  have : pick (ord16 t) 0 = [] := by unfold pick; simp
  rw [this]
  exact Row.nil _ _ _ _ _
theorem row_none4 (t : Bool) (w : World) : Row anyB w 4 ((pick (ord16 t) 0).map keyI).length (.slice none 0 0) (flatC kC ((pick (ord16 t) 0).map keyI)) := by
  have : pick (ord16 t) 0 = [] := by unfold pick; simp
  rw [this]
  exact Row.nil _ _ _ _ _
theorem nil_none : NilA (.slice none 0 0) := fun n c e => by cases e; rfl
def exE : List Ent := [entB 7 0 1 false true]
theorem ex3 : getE exE (setCh 3) (holdM 0) = some (entB 7 0 1 false true) := by
  have : appB (entB 7 0 1 false true) (setCh 3) (holdM 0) = true := (app_bits (c := 7) (u := 1) (a := 3) (h := 0) (k := 0) false true (by decide) (by decide) (by decide) (by decide) (by decide)).trans (by decide)
  unfold getE exE
  simp [this]
theorem ex1 : getE exE (setCh 1) (holdM 0) = some (entB 7 0 1 false true) := by
  have : appB (entB 7 0 1 false true) (setCh 1) (holdM 0) = true := (app_bits (c := 7) (u := 1) (a := 1) (h := 0) (k := 0) false true (by decide) (by decide) (by decide) (by decide) (by decide)).trans (by decide)
  unfold getE exE
  simp [this]
theorem ex6 : getE exE (setCh 6) (holdM 0) = none := by
  have : appB (entB 7 0 1 false true) (setCh 6) (holdM 0) = false := (app_bits (c := 7) (u := 1) (a := 6) (h := 0) (k := 0) false true (by decide) (by decide) (by decide) (by decide) (by decide)).trans (by decide)
  unfold getE exE
  simp [this]
end Go.Proofs.Ytemeppfikpafbaa
