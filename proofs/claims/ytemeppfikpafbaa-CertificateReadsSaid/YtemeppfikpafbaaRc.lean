/- Texts InvR, InvS, Degree, RankP, laid together. -/
import Derived.Deep.RegionLaw
import Derived.BigRegion
import Derived.Deep.DeepCutAuto
import Derived.Test.YtemeppfikpafbaaRa
import Derived.Test.YtemeppfikpafbaaRb
/- A region that draws its order, by one invariant: each operation is proved once, not once an order. -/
namespace Go.Proofs.Ytemeppfikpafbaa
/-- How many have not come up yet. -/
def Region.left (listed : Array Bool) : Nat := (listed.toList.filter (fun b => !b)).length
theorem Region.left_set {listed : Array Bool} {i : Nat} (h : listed.getD i true = false) : Region.left (listed.setIfInBounds i true) + 1 = Region.left listed := by
  obtain ⟨l⟩ := listed
  unfold Region.left
  simp only [List.setIfInBounds_toArray]
  simp only [Array.getD_eq_getD_getElem?, List.getElem?_toArray] at h
  induction l generalizing i with
  | nil => simp at h
  | cons b t ih =>
    cases i with
    | zero => simp at h; subst h; simp
    | succ i =>
      simp only [List.getElem?_cons_succ] at h
      have := ih h
      cases b <;> simp [List.set_cons_succ] at this ⊢ <;> omega
section
variable {P : Program} {ops : Array Oper} {Q : Exit → Act → World → Prop} {md : Region.Mode}
theorem wpAny_inv (I : Array Bool → Act → World → Prop)
    (step : ∀ listed a w i, I listed a w → listed.getD i true = false → i ∈ Region.ready md ops listed → wpOp P ops Q i (I (listed.setIfInBounds i true)) a w)
    (last : ∀ listed a w, I listed a w → Region.ready md ops listed = [] → Q .normal a w) :
    ∀ (fuel : Nat) (listed : Array Bool) (a : Act) (w : World), Region.left listed ≤ fuel → I listed a w → wpAny P md ops Q fuel listed a w := by
  intro fuel
  induction fuel with
  | zero =>
    intro listed a w hf h
    have hr : Region.ready md ops listed = [] := by
      cases e : Region.ready md ops listed with
      | nil => rfl
      | cons x xs =>
        have hx : x ∈ Region.ready md ops listed := by rw [e]; simp
        have := Region.left_set (mem_ready.1 hx).1
        omega
    exact ⟨hr, last _ _ _ h hr⟩
  | succ fuel ih =>
    intro listed a w hf h
    refine ⟨fun hr => last _ _ _ h hr, fun i hi => ?_⟩
    have h0 := (mem_ready.1 hi).1
    refine wpOp_mono (fun a' w' h' => ih _ a' w' ?_ h') (step _ _ _ i h h0 hi)
    have := Region.left_set h0
    omega
/-- The edges go back: all have come up when none may. -/
theorem ready_all (hb : ∀ (j : Nat) (o : Oper), ops[j]? = some o → ∀ e ∈ o.after, Region.binds md e = true → e.on < j) {listed : Array Bool} (hs : listed.size = ops.size)
    (h : Region.ready md ops listed = []) : ∀ j, j < ops.size → listed.getD j false = true := by
  intro j
  induction j using Nat.strongRecOn with
  | ind j ih =>
    intro hj
    cases hl : listed.getD j true with
    | true => simpa [Array.getElem?_eq_getElem (show j < listed.size by omega)] using hl
    | false =>
      have : j ∈ Region.ready md ops listed := mem_ready.2 ⟨hl, ops[j], Array.getElem?_eq_getElem hj, fun e he hbn =>
        have hlt := hb j ops[j] (Array.getElem?_eq_getElem hj) e he hbn
        ih e.on hlt (Nat.lt_trans hlt hj)⟩
      rw [h] at this
      cases this
end
/-- What an operation must do: the invariant goes over. -/
def InvOp (P : Program) (md : Region.Mode) (Q : Exit → Act → World → Prop) (ops : Array Oper) (I : Array Bool → Act → World → Prop) (i : Nat) (o : Oper) : Prop :=
  ∀ (listed : Array Bool) (a : Act) (w : World), I listed a w → listed.getD i true = false → (∀ e ∈ o.after.toList, Region.binds md e = true → listed.getD e.on false = true) →
    ∀ K : Act → World → Prop, (∀ a w, I (listed.setIfInBounds i true) a w → K a w) → if Region.wanted o (yielded ops a.tmps) = true then Oper.wp P o a w K Q else K (a.put o.dst undef) w
def InvOps (P : Program) (md : Region.Mode) (Q : Exit → Act → World → Prop) (ops : Array Oper) (I : Array Bool → Act → World → Prop) : Nat → List Oper → Prop
  | _, [] => True
  | i, o :: r => InvOp P md Q ops I i o ∧ InvOps P md Q ops I (i + 1) r
theorem InvOps.get {P : Program} {md : Region.Mode} {Q : Exit → Act → World → Prop} {ops : Array Oper} {I : Array Bool → Act → World → Prop} : ∀ {l : List Oper} {k : Nat}, InvOps P md Q ops I k l → ∀ (j : Nat) (o : Oper), l[j]? = some o → InvOp P md Q ops I (k + j) o
  | [], _, _, j, o, h => by simp at h
  | x :: r, k, H, 0, o, h => by simp at h; subst h; exact H.1
  | x :: r, k, H, j + 1, o, h => by
    have := InvOps.get H.2 j o (by simpa using h)
    rwa [show k + (j + 1) = k + 1 + j by omega]
def Region.backward (md : Region.Mode) (l : List Oper) : Bool :=
  l.zipIdx.all fun x => x.1.after.toList.all fun e => !Region.binds md e || decide (e.on < x.2)
theorem wp_region_inv {P : Program} {Q : Exit → Act → World → Prop} {id : Nat} {a : Act} {w : World} {l : List Oper} (I : Array Bool → Act → World → Prop) (hm : P.follows .mixedOrders = true) (hb : Region.backward .any l = true)
    (hs : ∀ listed a w, I listed a w → listed.size = l.length)
    (start : I (Array.replicate l.length false) a w.drew)
    (steps : InvOps P .any Q l.toArray I 0 l)
    (last : ∀ listed a w, I listed a w → (∀ j, j < l.length → listed.getD j false = true) → Q .normal a w) : (Code.region id l.toArray true).wp P Q a w := by
  refine wp_region_any hm ?_
  refine wpAny_inv I ?_ ?_ _ _ _ _ ?_ start
  · intro listed a w i hI h0 hr
    obtain ⟨_, o, ho, hall⟩ := mem_ready.1 hr
    refine wpOp_step ho fun K hK => ?_
    have := InvOps.get steps i o (by simpa using ho)
    rw [Nat.zero_add] at this
    exact this listed a w hI h0 (fun e he hbn => hall e (by simpa using he) hbn) K hK
  · intro listed a w hI hr
    refine last _ _ _ hI (fun j hj => ready_all ?_ (by simpa using hs _ _ _ hI) hr j (by simpa using hj))
    intro j o ho e he hbn
    unfold Region.backward at hb
    rw [List.all_eq_true] at hb
    have hx := hb (o, j) (by
      rw [List.mem_zipIdx_iff_getElem?]
      simpa using ho)
    rw [List.all_eq_true] at hx
    have := hx e (by simpa using he)
    rw [hbn] at this
    simpa using this
  · have : ∀ n : Nat, Region.left (Array.replicate n false) = n := by
      intro n
      unfold Region.left
      simp
    rw [this]
    simp
end Go.Proofs.Ytemeppfikpafbaa

/- A drawn region by one invariant, over the frame at its start; boxes that it lays and fills. -/
namespace Go.Proofs.Ytemeppfikpafbaa
open Go.RowKit
/-- wp_region_inv, the invariant over the frame at the region's start. -/
theorem wp_region_inv0 {P : Program} {Q : Exit → Act → World → Prop} {id : Nat} {a : Act} {w : World} {l : List Oper} (I : Act → Array Bool → Act → World → Prop) (hm : P.follows .mixedOrders = true) (hb : Region.backward .any l = true)
    (hs : ∀ listed a' w', I a listed a' w' → listed.size = l.length)
    (start : I a (Array.replicate l.length false) a w.drew)
    (steps : InvOps P .any Q l.toArray (I a) 0 l)
    (last : ∀ listed a' w', I a listed a' w' → (∀ j, j < l.length → listed.getD j false = true) → Q .normal a' w') : (Code.region id l.toArray true).wp P Q a w :=
  wp_region_inv (I a) hm hb hs start steps last
theorem InvOp.pass {P : Program} {md : Region.Mode} {Q : Exit → Act → World → Prop} {ops : Array Oper} {I : Array Bool → Act → World → Prop} {i : Nat} {o : Oper} (hg : o.guard = none)
    (h : ∀ (listed : Array Bool) (a : Act) (w : World), I listed a w → listed.getD i true = false → (∀ e ∈ o.after.toList, Region.binds md e = true → listed.getD e.on false = true) → ∀ K : Act → World → Prop, (∀ a w, I (listed.setIfInBounds i true) a w → K a w) → Oper.wp P o a w K Q) : InvOp P md Q ops I i o := by
  intro listed a w hI hl hd K hK
  rw [if_pos (by simp [Region.wanted, hg])]
  exact h listed a w hI hl hd K hK
theorem put_back {a b : Act} {d : Nat} (h : a = b) : a = b.put (some d) (b.tmps.getD d undef) := by
  subst h
  unfold Act.put
  obtain ⟨tm, r⟩ := a
  simp only [Act.mk.injEq, and_true]
  apply Array.ext_getElem?
  intro i
  rw [Array.getElem?_setIfInBounds]
  split
  · rename_i e
    subst e
    split
    · rename_i hl
      rw [Array.getElem?_eq_getElem hl]
      simp
    · rename_i hl
      rw [Array.getElem?_eq_none (by omega)]
  · rfl
/-- A block that the region has laid: a pointer to its head; it holds z, or v when it has been filled. -/
def Box (W : World) (base : Nat) (x : Value) (T : TypeId) (done : Bool) (z v : List Value) : Prop :=
  ∃ B, x = .pointer (some ⟨B, 0, none⟩) ∧ base ≤ B ∧ W.heap[B]? = some (.cells (if done then v else z).toArray T)
theorem Box.keep {W W' : World} {base : Nat} {x : Value} {T : TypeId} {done : Bool} {z v : List Value} (h : Box W base x T done z v) (hm : Lay W W') : Box W' base x T done z v := by
  obtain ⟨B, rfl, hB, hc⟩ := h
  exact ⟨B, rfl, hB, (hm.1.block (Array.getElem?_eq_some_iff.1 hc).1).trans hc⟩
theorem Box.keepM {W W' : World} {base : Nat} {x : Value} {T : TypeId} {done : Bool} {z v : List Value} (h : Box W base x T done z v) (hm : More W W') : Box W' base x T done z v := by
  obtain ⟨B, rfl, hB, hc⟩ := h
  exact ⟨B, rfl, hB, (hm.block (Array.getElem?_eq_some_iff.1 hc).1).trans hc⟩
theorem Box.start {W : World} {base : Nat} (T : TypeId) (z v : List Value) (h : base ≤ W.heap.size) : Box (W.alloc (.cells z.toArray T)) base (.pointer (some ⟨W.heap.size, 0, none⟩)) T false z v :=
  ⟨_, rfl, h, alloc_last _ _⟩
theorem setC_block (w : World) (B o : Nat) (cs : List Value) {k : Nat} (h : k ≠ B) : (setC w B o cs).heap[k]? = w.heap[k]? := by
  induction cs generalizing w o with
  | nil => rfl
  | cons c r ih => rw [setC, ih, Below.heap_setCell _ _ _ _ h]
/-- A store into another box. -/
theorem Box.other {W : World} {base : Nat} {x : Value} {T : TypeId} {done : Bool} {z v : List Value} (h : Box W base x T done z v) {B : Nat} (hx : x ≠ .pointer (some ⟨B, 0, none⟩)) (cs : List Value) : Box (setC W B 0 cs) base x T done z v := by
  obtain ⟨B', rfl, hB, hc⟩ := h
  have : B' ≠ B := fun e => hx (by rw [e])
  exact ⟨B', rfl, hB, (setC_block _ _ _ _ this).trans hc⟩
theorem moreSetC {w w1 : World} (h : More w w1) {B o : Nat} (hB : w.heap.size ≤ B) (cs : List Value) : More w (setC w1 B o cs) := by
  have hg := setC_grown w1 B o cs
  exact ⟨hg.os.trans h.os, hg.tape.trans h.tape, hg.output.trans h.output, Nat.le_trans h.size hg.size, fun k hk _ => by rw [setC_block _ _ _ _ (by omega)]; exact h.block hk⟩
theorem blk_lt {W : World} {B : Nat} {o : Obj} (h : W.heap[B]? = some o) : B < W.heap.size := (Array.getElem?_eq_some_iff.1 h).1
theorem setCell_heap {w : World} {B o : Nat} {v : Value} {arr : Array Value} {ty : TypeId} (h : w.heap[B]? = some (.cells arr ty)) : (w.setCell ⟨B, o, none⟩ v).heap[B]? = some (.cells (arr.setIfInBounds o v) ty) := by
  simp [World.setCell, Array.getElem?_modify, h]
theorem Box.at {W : World} {base : Nat} {x : Value} {T : TypeId} {done : Bool} {z v : List Value} (h : Box W base x T done z v) : ∃ B, x = .pointer (some ⟨B, 0, none⟩) ∧ base ≤ B ∧ W.heap[B]? = some (.cells (if done then v else z).toArray T) := h
theorem Box.lt {W : World} {base : Nat} {x : Value} {T : TypeId} {done : Bool} {z v : List Value} (h : Box W base x T done z v) {n : Nat} (hn : W.heap.size ≤ n) : x ≠ .pointer (some ⟨n, 0, none⟩) := by
  obtain ⟨B, rfl, hB, hc⟩ := h
  have := (Array.getElem?_eq_some_iff.1 hc).1
  intro e; cases e; omega
/-- Behind a base: the worlds since the base may have written to blocks from the base on. -/
theorem Lay.setC {w w1 : World} (h : Lay w w1) {B o : Nat} (hB : w.heap.size ≤ B) (cs : List Value) : Lay w (setC w1 B o cs) := by
  have hg := setC_grown w1 B o cs
  refine ⟨⟨hg.os.trans h.1.os, hg.tape.trans h.1.tape, hg.output.trans h.1.output, Nat.le_trans h.1.size hg.size, fun k hk _ => ?_⟩, ?_⟩
  · rw [setC_block _ _ _ _ (by omega)]; exact h.1.block hk
  · have : (Ytemeppfikpafbaa.setC w1 B o cs).drawn = w1.drawn := by
      induction cs generalizing w1 o with
      | nil => rfl
      | cons c r ih =>
        rw [Ytemeppfikpafbaa.setC]
        have h' : (w1.setCell ⟨B, o, none⟩ c).drawn = w1.drawn := rfl
        rw [← h']
        have hl : Lay w (w1.setCell ⟨B, o, none⟩ c) := ⟨⟨h.1.os, h.1.tape, h.1.output, by have := h.1.size; simp only [World.setCell]; simpa using this, fun k hk hne => by rw [Below.heap_setCell _ _ _ _ (show k ≠ B by omega)]; exact h.1.block hk⟩, h.2⟩
        exact ih hl (setC_grown _ _ _ _)
    rw [this]; exact h.2
end Go.Proofs.Ytemeppfikpafbaa

/- rank.zero (63), rank.Degree (22). -/
namespace Go.Proofs.Ytemeppfikpafbaa
open Go.RowKit
/-- A cause: its choices and its messages. -/
structure Cau where
  undo : List K4
  hold : List M3
instance : Inhabited Cau := ⟨⟨[], []⟩⟩
structure Cau.Ok (c : Cau) : Prop where
  undo : ∀ x ∈ c.undo, x.Ok
  hold : ∀ x ∈ c.hold, x.Ok
  lu : c.undo.length ≤ 400
  lh : c.hold.length ≤ 400
def Cau.size (c : Cau) : Nat := (nd c.undo).length + (nd c.hold).length
theorem nd_len {α : Type} [DecidableEq α] (l : List α) : (nd l).length ≤ l.length := by
  have h : ∀ (l acc : List α), (l.foldl ndStep acc).length ≤ acc.length + l.length := by
    intro l
    induction l with
    | nil => intro acc; simp
    | cons x r ih =>
      intro acc
      have h1 := ih (ndStep acc x)
      have h2 : (ndStep acc x).length ≤ acc.length + 1 := by unfold ndStep; split <;> simp
      simp only [List.foldl_cons, List.length_cons]; omega
  have := h l []
  unfold nd
  simpa using this
theorem Cau.size_le {c : Cau} (h : c.Ok) : c.size ≤ 800 := by
  have h1 := nd_len c.undo
  have h2 := nd_len c.hold
  have := h.lu; have := h.lh
  unfold Cau.size; omega
def degR (n : Nat) : Int × Int := if n = 0 then (0, 1) else (1, n)
theorem zero_any (w : World) : Calls Try.prog 63 #[] w fun e w' => e = .returned (.agg #[.int .i64 0, .int .i64 1]) ∧ Lay w w' := by
  go_enter Try.func63, Try.ntmps63
  go_wp2_with fail
  have h := alloc_last w (.cells #[.int .i64 0, .int .i64 1] 32)
  have c0 : (w.alloc (.cells #[.int .i64 0, .int .i64 1] 32)).cell? ⟨w.heap.size, 0, none⟩ = some (.int .i64 0) := cell_of_blk h rfl
  have c1 : (w.alloc (.cells #[.int .i64 0, .int .i64 1] 32)).cell? ⟨w.heap.size, 1, none⟩ = some (.int .i64 1) := cell_of_blk h rfl
  exact bodyPost_ret (v := .agg #[.int .i64 0, .int .i64 1]) (by simp [results, Try.results63, go_sem, c0, c1]) rfl ⟨rfl, Lay.alloc _ _⟩
set_option maxRecDepth 100000 in
set_option maxHeartbeats 1000000 in
theorem degree_any (S S' : Nat → Prop) (c : Cau) (vu vh : Value) (w : World) (hok : c.Ok) (hu : Row S w 4 c.undo.length vu (flatC kC c.undo)) (hh : Row S' w 3 c.hold.length vh (flatC mC c.hold)) :
    Calls Try.prog 22 #[.agg #[vu, vh]] w fun e w' => e = .returned (rA (degR c.size)) ∧ More w w' := by
  obtain ⟨ua, uc, rfl, _⟩ := hu.shape
  obtain ⟨ha, hc, rfl, _⟩ := hh.shape
  have HU := Lib.hid hu; clear hu
  have HH := Lib.hid hh; clear hh
  have HOK := Lib.hid hok; clear hok
  have HSZ := Lib.hid (show ((nd c.undo).length : Int) + ((nd c.hold).length : Int) = (c.size : Int) by unfold Cau.size; omega)
  have HLE := Lib.hid (Cau.size_le HOK.out)
  have HLU := Lib.hid (nd_len c.undo)
  have HLH := Lib.hid (nd_len c.hold)
  go_enter Try.func22, Try.ntmps22
  go_wp2_with fail
  obtain ⟨h1, h2, hl⟩ := boxed2 w (.cells #[.slice ua c.undo.length uc, .slice ha c.hold.length hc] 30) (.cells #[.int .i64 0, .int .i64 0] 32)
  generalize (w.alloc (.cells #[.slice ua c.undo.length uc, .slice ha c.hold.length hc] 30)).alloc (.cells #[.int .i64 0, .int .i64 0] 32) = w2 at *
  have HM2 := Lib.hid hl.1
  have H1 := Lib.hid h1
  have H2 := Lib.hid h2
  have K0 : w2.drew.cell? ⟨w.heap.size, 0, none⟩ = some (.slice ua c.undo.length uc) ∧ w2.drew.cell? ⟨w.heap.size, 1, none⟩ = some (.slice ha c.hold.length hc) := ⟨cell_of_blk h1 rfl, cell_of_blk h1 rfl⟩
  clear h1 h2 hl
  go_cut [3] (fun s wx => s = .int .i64 c.size ∧ Hid (More w2 wx))
  case first =>
    have HM := Lib.hid (more_drew w2)
    have HKEEP := Lib.hid (show ∀ W, More w2 W → W.cell? ⟨w.heap.size, 0, none⟩ = some (.slice ua c.undo.length uc) ∧ W.cell? ⟨w.heap.size, 1, none⟩ = some (.slice ha c.hold.length hc) from fun W h => ⟨h.cell K0.1, h.cell K0.2⟩)
    have hb1 : ((nd c.undo).length : Int) ≤ 400 := by have := HLU.out; have := HOK.out.lu; omega
    have hb2 : ((nd c.hold).length : Int) ≤ 400 := by have := HLH.out; have := HOK.out.lh; omega
    have hsum := HSZ.out
    go_region_held3 (fun W => W.cell? ⟨w.heap.size, 0, none⟩ = some (.slice ua c.undo.length uc) ∧ W.cell? ⟨w.heap.size, 1, none⟩ = some (.slice ha c.hold.length hc)) (exact HKEEP.out _ HM.out) (first | (go_at_call 61; refine (distinctK_any S c.undo _ _ (by have := HOK.out.lu; omega) HOK.out.undo (HU.out.below (more_trans HM2.out HM.out).below)).mono ?_; rintro e w3 ⟨rfl, hm⟩; have HM := Lib.hid (more_trans HM.out (more_of hm)); clear hm) | (go_at_call 62; refine (distinctM_any S' c.hold _ _ (by have := HOK.out.lh; omega) HOK.out.hold (HH.out.below (more_trans HM2.out HM.out).below)).mono ?_; rintro e w3 ⟨rfl, hm⟩; have HM := Lib.hid (more_trans HM.out (more_of hm)); clear hm))
    all_goals (go_wp2_with fail; go_meet)
    all_goals exact ⟨by have := HLE.out; rw [show IntKind.i64.wrap (c.size : Int) = (c.size : Int) by rw [IntKind.wrap_i64]; omega], HM⟩
  case rest =>
    obtain ⟨rfl, HM⟩ := hcut
    have HLW := Lib.hid (show w.heap.size + 1 < w2.heap.size from (Array.getElem?_eq_some_iff.1 H2.out).1)
    have hle := HLE.out
    obtain ⟨n, hnc⟩ : ∃ n, c.size = n := ⟨_, rfl⟩
    rw [hnc] at hle
    rw [hnc]
    have HNE := Lib.hid hnc
    clear hnc
    by_cases hn : n = 0
    · have t1 : ((n : Int) == 0) = true := by simp [hn]
      have HD := Lib.hid (show degR n = (0, 1) by unfold degR; rw [if_pos hn])
      clear hn
      go_wp2_with fail
      refine (zero_any _).mono ?_
      rintro e w4 ⟨rfl, hl4⟩
      have h2 := ((more_trans HM.out hl4.1).block HLW.out).trans H2.out
      have k0 : w4.cell? ⟨w.heap.size + 1, 0, none⟩ = some (.int .i64 0) := cell_of_blk h2 rfl
      have k1 : w4.cell? ⟨w.heap.size + 1, 1, none⟩ = some (.int .i64 0) := cell_of_blk h2 rfl
      have f0 := thaw h2 0
      have f1 := thaw h2 1
      have HM4 := Lib.hid (more_trans HM2.out (more_trans HM.out hl4.1))
      clear h2 hl4
      go_wp2_with fail
      have c0 : ((w4.setCell ⟨w.heap.size + 1, 0, none⟩ (.int .i64 0)).setCell ⟨w.heap.size + 1, 1, none⟩ (.int .i64 1)).cell? ⟨w.heap.size + 1, 0, none⟩ = some (.int .i64 0) := by rw [setCell_neq (by omega)]; exact setCell_eq k0
      have c1 : ((w4.setCell ⟨w.heap.size + 1, 0, none⟩ (.int .i64 0)).setCell ⟨w.heap.size + 1, 1, none⟩ (.int .i64 1)).cell? ⟨w.heap.size + 1, 1, none⟩ = some (.int .i64 1) := setCell_eq (v := .int .i64 0) (by rw [setCell_neq (by omega)]; exact k1)
      exact bodyPost_ret (v := .agg #[.int .i64 0, .int .i64 1]) (by simp [results, Try.results22, go_sem, c0, c1]) rfl ⟨by rw [HNE.out, HD.out]; rfl, more_of ((HM4.out.below.setCell (Nat.le_succ _) _).setCell (Nat.le_succ _) _)⟩
    · have t1 : ((n : Int) == 0) = false := by rw [beq_eq_false_iff_ne]; omega
      have HD := Lib.hid (show degR n = (1, (n : Int)) by unfold degR; rw [if_neg hn])
      clear hn
      have h2 := (HM.out.block HLW.out).trans H2.out
      have k0 : wc.cell? ⟨w.heap.size + 1, 0, none⟩ = some (.int .i64 0) := cell_of_blk h2 rfl
      have k1 : wc.cell? ⟨w.heap.size + 1, 1, none⟩ = some (.int .i64 0) := cell_of_blk h2 rfl
      have f0 := thaw h2 0
      have f1 := thaw h2 1
      have HM4 := Lib.hid (more_trans HM2.out HM.out)
      clear h2
      go_wp2_with fail
      have c0 : ((wc.setCell ⟨w.heap.size + 1, 0, none⟩ (.int .i64 1)).setCell ⟨w.heap.size + 1, 1, none⟩ (.int .i64 n)).cell? ⟨w.heap.size + 1, 0, none⟩ = some (.int .i64 1) := by rw [setCell_neq (by omega)]; exact setCell_eq k0
      have c1 : ((wc.setCell ⟨w.heap.size + 1, 0, none⟩ (.int .i64 1)).setCell ⟨w.heap.size + 1, 1, none⟩ (.int .i64 n)).cell? ⟨w.heap.size + 1, 1, none⟩ = some (.int .i64 n) := setCell_eq (v := .int .i64 0) (by rw [setCell_neq (by omega)]; exact k1)
      exact bodyPost_ret (v := .agg #[.int .i64 1, .int .i64 n]) (by simp [results, Try.results22, go_sem, c0, c1]) rfl ⟨by rw [HNE.out, HD.out]; rfl, more_of ((HM4.out.below.setCell (Nat.le_succ _) _).setCell (Nat.le_succ _) _)⟩
end Go.Proofs.Ytemeppfikpafbaa

/- Plain laws of ranks: the least size of a cause that has a key; the sorted shares. -/
namespace Go.Proofs.Ytemeppfikpafbaa
open Go.RowKit Go.Sort Go.Shelf
/-- What ratio.Cmp answers. -/
def cmpR (x y : Int × Int) : Int := cmpI ((oneR x).1 * (oneR y).2) ((oneR y).1 * (oneR x).2)
theorem degR_ok {n : Nat} (h : n ≤ 1000) : OkR (degR n) := by
  unfold degR OkR
  split
  · right; left; rfl
  · right; right
    refine ⟨rfl, ?_, ?_⟩
    · show (1 : Int) ≤ n; omega
    · show (n : Int) ≤ 1000; omega
theorem oneR_deg (n : Nat) : oneR (degR n) = degR n := by
  unfold degR oneR
  split <;> simp
theorem degR_inj {m n : Nat} (h : degR m = degR n) : m = n := by
  unfold degR at h
  split at h <;> split at h <;> simp at h <;> omega
/-- The order of degrees is the one of their denominators, turned; 0 is the least degree. -/
theorem cmpR_pos (m n : Nat) : 0 < cmpR (degR m) (degR n) ↔ 0 < m ∧ (n = 0 ∨ m < n) := by
  unfold cmpR
  rw [oneR_deg, oneR_deg]
  unfold degR cmpI
  by_cases hm : m = 0 <;> by_cases hn : n = 0 <;> simp [hm, hn]
  · omega
  · split
    · omega
    · split <;> omega
theorem cmpR_zero (m n : Nat) : cmpR (degR m) (degR n) = 0 ↔ m = n := by
  unfold cmpR
  rw [oneR_deg, oneR_deg]
  unfold degR cmpI
  by_cases hm : m = 0 <;> by_cases hn : n = 0 <;> simp [hm, hn]
  · omega
  · split
    · omega
    · split <;> omega
theorem cmpR_neg (m n : Nat) : cmpR (degR m) (degR n) < 0 ↔ 0 < n ∧ (m = 0 ∨ n < m) := by
  unfold cmpR
  rw [oneR_deg, oneR_deg]
  unfold degR cmpI
  by_cases hm : m = 0 <;> by_cases hn : n = 0 <;> simp [hm, hn]
  · omega
  · split
    · omega
    · split <;> omega
theorem cmpR_none (m : Nat) : cmpR (degR m) (0, 0) = cmpR (degR m) (degR 0) := by
  unfold cmpR
  rw [show oneR (0, 0) = oneR (degR 0) from rfl]
/-- Two ascending lists with the same elements are one. -/
theorem asc_unique {α : Type} {lt : α → α → Prop} (hi : ∀ x, ¬ lt x x) (ht : ∀ x y z, lt x y → lt y z → lt x z) : ∀ {l m : List α}, l.Pairwise lt → m.Pairwise lt → (∀ x, x ∈ l ↔ x ∈ m) → l = m
  | [], [], _, _, _ => rfl
  | [], y :: m, _, _, h => by have := (h y).2 (by simp); simp at this
  | x :: l, [], _, _, h => by have := (h x).1 (by simp); simp at this
  | x :: l, y :: m, hl, hm, h => by
    rw [List.pairwise_cons] at hl hm
    have hxy : x = y := by
      rcases List.mem_cons.1 ((h x).1 (by simp)) with e | e
      · exact e
      · rcases List.mem_cons.1 ((h y).2 (by simp)) with e' | e'
        · exact e'.symm
        · exact absurd (ht _ _ _ (hm.1 x e) (hl.1 y e')) (hi _)
    subst hxy
    rw [asc_unique hi ht hl.2 hm.2 (fun z => ?_)]
    constructor
    · intro hz
      rcases List.mem_cons.1 ((h z).1 (List.mem_cons_of_mem _ hz)) with e | e
      · subst e; exact absurd (hl.1 z hz) (hi _)
      · exact e
    · intro hz
      rcases List.mem_cons.1 ((h z).2 (List.mem_cons_of_mem _ hz)) with e | e
      · subst e; exact absurd (hm.1 z hz) (hi _)
      · exact e
/-- An element is put in its place, unless it is there. -/
def insS {α : Type} [DecidableEq α] (lt : α → α → Bool) (k : α) : List α → List α
  | [] => [k]
  | x :: r => if x = k then x :: r else if lt k x then k :: x :: r else x :: insS lt k r
/-- One step of the loop that does so: what has been appended, whether k has its place. -/
def stS {α : Type} [DecidableEq α] (lt : α → α → Bool) (k : α) (s : List α × Bool) (x : α) : List α × Bool :=
  if s.2 = true ∨ x = k then (s.1 ++ [x], true) else if lt k x then (s.1 ++ [k, x], true) else (s.1 ++ [x], false)
theorem stS_done {α : Type} [DecidableEq α] (lt : α → α → Bool) (k : α) : ∀ (l n : List α), l.foldl (stS lt k) (n, true) = (n ++ l, true)
  | [], n => by simp
  | x :: r, n => by
    rw [List.foldl_cons, show stS lt k (n, true) x = (n ++ [x], true) by unfold stS; simp, stS_done]
    simp
theorem stS_ins {α : Type} [DecidableEq α] (lt : α → α → Bool) (k : α) : ∀ (l n : List α), (if (l.foldl (stS lt k) (n, false)).2 then (l.foldl (stS lt k) (n, false)).1 else (l.foldl (stS lt k) (n, false)).1 ++ [k]) = n ++ insS lt k l
  | [], n => by simp [insS]
  | x :: r, n => by
    rw [List.foldl_cons]
    unfold insS
    by_cases h1 : x = k
    · rw [show stS lt k (n, false) x = (n ++ [x], true) by unfold stS; simp [h1], stS_done, if_pos h1]
      simp
    · by_cases h2 : lt k x = true
      · rw [show stS lt k (n, false) x = (n ++ [k, x], true) by unfold stS; simp [h1, h2], stS_done, if_neg h1, if_pos h2]
        simp
      · rw [show stS lt k (n, false) x = (n ++ [x], false) by unfold stS; simp [h1, h2], stS_ins lt k r, if_neg h1, if_neg h2]
        simp
theorem mem_insS {α : Type} [DecidableEq α] {lt : α → α → Bool} {k : α} : ∀ (l : List α) (x : α), x ∈ insS lt k l ↔ x = k ∨ x ∈ l
  | [], x => by simp [insS]
  | y :: r, x => by
    unfold insS
    split
    · rename_i h; subst h; simp
    · split
      · simp
      · rw [List.mem_cons, mem_insS r x, List.mem_cons]
        constructor
        · rintro (h | h | h)
          · exact Or.inr (Or.inl h)
          · exact Or.inl h
          · exact Or.inr (Or.inr h)
        · rintro (h | h | h)
          · exact Or.inr (Or.inl h)
          · exact Or.inl h
          · exact Or.inr (Or.inr h)
theorem insS_asc {α : Type} [DecidableEq α] {lt : α → α → Bool} {L : α → α → Prop} (hL : ∀ x y, lt x y = true ↔ L x y) (ht : ∀ x y z, L x y → L y z → L x z) (tri : ∀ x y, ¬ L x y → ¬ L y x → x = y) {k : α} : ∀ {l : List α}, l.Pairwise L → (insS lt k l).Pairwise L
  | [], _ => by simp [insS]
  | y :: r, h => by
    unfold insS
    rw [List.pairwise_cons] at h
    split
    · exact List.pairwise_cons.2 h
    · rename_i hne
      split
      · rename_i hlt
        refine List.pairwise_cons.2 ⟨fun z hz => ?_, List.pairwise_cons.2 h⟩
        rcases List.mem_cons.1 hz with e | e
        · rw [e]; exact (hL _ _).1 hlt
        · exact ht _ _ _ ((hL _ _).1 hlt) (h.1 z e)
      · rename_i hnl
        refine List.pairwise_cons.2 ⟨fun z hz => ?_, insS_asc hL ht tri h.2⟩
        rcases (mem_insS r z).1 hz with e | e
        · subst e
          by_cases hy : L y z
          · exact hy
          · exact absurd (tri _ _ hy (fun e => hnl ((hL _ _).2 e))) hne
        · exact h.1 z e
/-- The reference's sorted keys, each once. -/
def sortS {α : Type} [DecidableEq α] (lt : α → α → Bool) (l : List α) : List α := l.foldl (fun out k => insS lt k out) []
theorem sortS_push {α : Type} [DecidableEq α] (lt : α → α → Bool) (l : List α) (x : α) : sortS lt (l ++ [x]) = insS lt x (sortS lt l) := by unfold sortS; rw [List.foldl_append]; rfl
theorem sortS_take {α : Type} [DecidableEq α] (lt : α → α → Bool) (l : List α) (j : Nat) (h : j < l.length) : sortS lt (l.take (j + 1)) = insS lt l[j] (sortS lt (l.take j)) := by rw [List.take_succ_eq_append_getElem h, sortS_push]
theorem mem_sortS {α : Type} [DecidableEq α] (lt : α → α → Bool) (l : List α) (x : α) : x ∈ sortS lt l ↔ x ∈ l := by
  have h : ∀ (l out : List α), x ∈ l.foldl (fun out k => insS lt k out) out ↔ x ∈ out ∨ x ∈ l := by
    intro l
    induction l with
    | nil => intro out; simp
    | cons k r ih =>
      intro out
      rw [List.foldl_cons, ih, mem_insS, List.mem_cons]
      constructor
      · rintro ((h | h) | h)
        · exact Or.inr (Or.inl h)
        · exact Or.inl h
        · exact Or.inr (Or.inr h)
      · rintro (h | h | h)
        · exact Or.inl (Or.inr h)
        · exact Or.inl (Or.inl h)
        · exact Or.inr h
  unfold sortS
  rw [h]; simp
theorem sortS_asc {α : Type} [DecidableEq α] {lt : α → α → Bool} {L : α → α → Prop} (hL : ∀ x y, lt x y = true ↔ L x y) (ht : ∀ x y z, L x y → L y z → L x z) (tri : ∀ x y, ¬ L x y → ¬ L y x → x = y) (l : List α) : (sortS lt l).Pairwise L := by
  have h : ∀ (l out : List α), out.Pairwise L → (l.foldl (fun out k => insS lt k out) out).Pairwise L := by
    intro l
    induction l with
    | nil => intro out h; exact h
    | cons k r ih => intro out h; rw [List.foldl_cons]; exact ih _ (insS_asc hL ht tri h)
  exact h l [] List.Pairwise.nil
theorem asc_nodup {α : Type} {L : α → α → Prop} (hi : ∀ x, ¬ L x x) {l : List α} (h : l.Pairwise L) : l.Nodup := List.Pairwise.imp (S := fun a b => a ≠ b) (fun {a b} hab => by intro e; subst e; exact hi _ hab) h
theorem len_of_mem {α : Type} [DecidableEq α] : ∀ {l m : List α}, l.Nodup → m.Nodup → (∀ x, x ∈ l ↔ x ∈ m) → l.length = m.length
  | _l, _m, hl, hm, h => (List.perm_ext_iff_of_nodup hl hm |>.2 h).length_eq
theorem sortS_len {α : Type} [DecidableEq α] {lt : α → α → Bool} {L : α → α → Prop} (hL : ∀ x y, lt x y = true ↔ L x y) (hi : ∀ x, ¬ L x x) (ht : ∀ x y z, L x y → L y z → L x z) (tri : ∀ x y, ¬ L x y → ¬ L y x → x = y) (l : List α) : (sortS lt l).length = (nd l).length :=
  len_of_mem (asc_nodup hi (sortS_asc hL ht tri l)) (nodup_nd l) (fun x => by rw [mem_sortS, mem_nd])
end Go.Proofs.Ytemeppfikpafbaa

