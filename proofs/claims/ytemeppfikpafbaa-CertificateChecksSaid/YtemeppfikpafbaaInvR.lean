/- A region that draws its order, by one invariant: each operation is proved once, not once an order. -/
import Derived.Deep.RegionLaw
import Derived.BigRegion
namespace Go.Proofs.Ytemeppfikpafbaa
/-- How many have not come up yet. -/
def Region.left (listed : Array Bool) : Nat := (listed.toList.filter (fun b => !b)).length
theorem Region.left_set {listed : Array Bool} {i : Nat} (h : listed.getD i true = false) : Region.left (listed.setIfInBounds i true) + 1 = Region.left listed := by
  obtain ⟨l⟩ := listed
  unfold Region.left
  simp only [List.setIfInBounds_toArray]
  simp only [Array.getD_eq_getD_getElem?, List.getElem?_toArray] at h
  induction l generalizing i with
  | nil => simp at h
  | cons b t ih =>
    cases i with
    | zero => simp at h; subst h; simp
    | succ i =>
      simp only [List.getElem?_cons_succ] at h
      have := ih h
      cases b <;> simp [List.set_cons_succ] at this ⊢ <;> omega
section
variable {P : Program} {ops : Array Oper} {Q : Exit → Act → World → Prop} {md : Region.Mode}
theorem wpAny_inv (I : Array Bool → Act → World → Prop)
    (step : ∀ listed a w i, I listed a w → listed.getD i true = false → i ∈ Region.ready md ops listed → wpOp P ops Q i (I (listed.setIfInBounds i true)) a w)
    (last : ∀ listed a w, I listed a w → Region.ready md ops listed = [] → Q .normal a w) :
    ∀ (fuel : Nat) (listed : Array Bool) (a : Act) (w : World), Region.left listed ≤ fuel → I listed a w → wpAny P md ops Q fuel listed a w := by
  intro fuel
  induction fuel with
  | zero =>
    intro listed a w hf h
    have hr : Region.ready md ops listed = [] := by
      cases e : Region.ready md ops listed with
      | nil => rfl
      | cons x xs =>
        have hx : x ∈ Region.ready md ops listed := by rw [e]; simp
        have := Region.left_set (mem_ready.1 hx).1
        omega
    exact ⟨hr, last _ _ _ h hr⟩
  | succ fuel ih =>
    intro listed a w hf h
    refine ⟨fun hr => last _ _ _ h hr, fun i hi => ?_⟩
    have h0 := (mem_ready.1 hi).1
    refine wpOp_mono (fun a' w' h' => ih _ a' w' ?_ h') (step _ _ _ i h h0 hi)
    have := Region.left_set h0
    omega
/-- The edges go back: all have come up when none may. -/
theorem ready_all (hb : ∀ (j : Nat) (o : Oper), ops[j]? = some o → ∀ e ∈ o.after, Region.binds md e = true → e.on < j) {listed : Array Bool} (hs : listed.size = ops.size)
    (h : Region.ready md ops listed = []) : ∀ j, j < ops.size → listed.getD j false = true := by
  intro j
  induction j using Nat.strongRecOn with
  | ind j ih =>
    intro hj
    cases hl : listed.getD j true with
    | true => simpa [Array.getElem?_eq_getElem (show j < listed.size by omega)] using hl
    | false =>
      have : j ∈ Region.ready md ops listed := mem_ready.2 ⟨hl, ops[j], Array.getElem?_eq_getElem hj, fun e he hbn =>
        have hlt := hb j ops[j] (Array.getElem?_eq_getElem hj) e he hbn
        ih e.on hlt (Nat.lt_trans hlt hj)⟩
      rw [h] at this
      cases this
end
/-- What an operation must do: the invariant goes over. -/
def InvOp (P : Program) (md : Region.Mode) (Q : Exit → Act → World → Prop) (ops : Array Oper) (I : Array Bool → Act → World → Prop) (i : Nat) (o : Oper) : Prop :=
  ∀ (listed : Array Bool) (a : Act) (w : World), I listed a w → listed.getD i true = false → (∀ e ∈ o.after.toList, Region.binds md e = true → listed.getD e.on false = true) →
    ∀ K : Act → World → Prop, (∀ a w, I (listed.setIfInBounds i true) a w → K a w) → if Region.wanted o (yielded ops a.tmps) = true then Oper.wp P o a w K Q else K (a.put o.dst undef) w
def InvOps (P : Program) (md : Region.Mode) (Q : Exit → Act → World → Prop) (ops : Array Oper) (I : Array Bool → Act → World → Prop) : Nat → List Oper → Prop
  | _, [] => True
  | i, o :: r => InvOp P md Q ops I i o ∧ InvOps P md Q ops I (i + 1) r
theorem InvOps.get {P : Program} {md : Region.Mode} {Q : Exit → Act → World → Prop} {ops : Array Oper} {I : Array Bool → Act → World → Prop} : ∀ {l : List Oper} {k : Nat}, InvOps P md Q ops I k l → ∀ (j : Nat) (o : Oper), l[j]? = some o → InvOp P md Q ops I (k + j) o
  | [], _, _, j, o, h => by simp at h
  | x :: r, k, H, 0, o, h => by simp at h; subst h; exact H.1
  | x :: r, k, H, j + 1, o, h => by
    have := InvOps.get H.2 j o (by simpa using h)
    rwa [show k + (j + 1) = k + 1 + j by omega]
def Region.backward (md : Region.Mode) (l : List Oper) : Bool :=
  l.zipIdx.all fun x => x.1.after.toList.all fun e => !Region.binds md e || decide (e.on < x.2)
theorem wp_region_inv {P : Program} {Q : Exit → Act → World → Prop} {id : Nat} {a : Act} {w : World} {l : List Oper} (I : Array Bool → Act → World → Prop) (hm : P.follows .mixedOrders = true) (hb : Region.backward .any l = true)
    (hs : ∀ listed a w, I listed a w → listed.size = l.length)
    (start : I (Array.replicate l.length false) a w.drew)
    (steps : InvOps P .any Q l.toArray I 0 l)
    (last : ∀ listed a w, I listed a w → (∀ j, j < l.length → listed.getD j false = true) → Q .normal a w) : (Code.region id l.toArray true).wp P Q a w := by
  refine wp_region_any hm ?_
  refine wpAny_inv I ?_ ?_ _ _ _ _ ?_ start
  · intro listed a w i hI h0 hr
    obtain ⟨_, o, ho, hall⟩ := mem_ready.1 hr
    refine wpOp_step ho fun K hK => ?_
    have := InvOps.get steps i o (by simpa using ho)
    rw [Nat.zero_add] at this
    exact this listed a w hI h0 (fun e he hbn => hall e (by simpa using he) hbn) K hK
  · intro listed a w hI hr
    refine last _ _ _ hI (fun j hj => ready_all ?_ (by simpa using hs _ _ _ hI) hr j (by simpa using hj))
    intro j o ho e he hbn
    unfold Region.backward at hb
    rw [List.all_eq_true] at hb
    have hx := hb (o, j) (by
      rw [List.mem_zipIdx_iff_getElem?]
      simpa using ho)
    rw [List.all_eq_true] at hx
    have := hx e (by simpa using he)
    rw [hbn] at this
    simpa using this
  · have : ∀ n : Nat, Region.left (Array.replicate n false) = n := by
      intro n
      unfold Region.left
      simp
    rw [this]
    simp
end Go.Proofs.Ytemeppfikpafbaa
