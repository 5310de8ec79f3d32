/- Operands and the operations that touch no memory, as the reckoner does them. -/
import Derived.Test.YtknmbmdeilbdkaaGreatDoorEvB
import Derived.Laws.Tables
import Derived.Laws.Small
import Derived.Laws.Slices
import Derived.Great.BuildSlice
namespace Go.Proofs.YtknmbmdeilbdkaaGreatDoor.Ev
open Go

/-- A value without blocks. -/
def absL (f : Value → Option AV) : List Value → Option (List AV)
  | [] => some []
  | v :: vs => match f v with
    | none => none
    | some a => match absL f vs with
      | none => none
      | some l => some (a :: l)
def absV : Nat → Value → Option AV
  | _, .bool b => some (.bool b)
  | _, .int k n => some (.int k n)
  | _, .string s => some (.str s.data.toList.length (encL s.data.toList))
  | _, .pointer none => some .nilp
  | _, .slice none 0 0 => some .nils
  | _, .nilFunc => some .nilf
  | _, .nilIface => some .nili
  | _, .func (.func f) ⟨[]⟩ ⟨[]⟩ => some (.fn f [] [])
  | n + 1, .agg ⟨l⟩ => match absL (absV n) l with
    | none => none
    | some l => some (.agg l)
  | n + 1, .tuple ⟨l⟩ => match absL (absV n) l with
    | none => none
    | some l => some (.tup l)
  | n + 1, .iface t v => match absV n v with
    | none => none
    | some a => some (.ifc t a)
  | _, _ => none
theorem absL_sound {m : Ren} {f : Value → Option AV} (hf : ∀ v a, f v = some a → VR m a v) : ∀ (vs : List Value) (l : List AV), absL f vs = some l → LR m l vs
  | [], l, h => by cases h; exact LR.nil
  | v :: vs, l, h => by
    simp only [absL] at h
    split at h
    · cases h
    · rename_i a ha
      split at h
      · cases h
      · rename_i l' hl
        cases h
        exact LR.cons (hf v a ha) (absL_sound hf vs l' hl)
theorem dec_bytes (s : ByteArray) : dec s.data.toList.length (encL s.data.toList) = s := by
  unfold dec
  rw [decL_enc]
theorem absV_sound (m : Ren) : ∀ (n : Nat) (v : Value) (a : AV), absV n v = some a → VR m a v := by
  intro n
  induction n with
  | zero =>
    intro v a h
    unfold absV at h
    split at h <;> try cases h
    · exact .bool _
    · exact .int _ _
    · rename_i s
      have := VR.str (m := m) (encL_lt s.data.toList)
      rw [dec_bytes] at this
      exact this
    · exact .nilp
    · exact .nils
    · exact .nilf
    · exact .nili
    · exact .fn rfl (fun i a v h => by simp at h) rfl (fun i a v h => by simp at h)
    all_goals exact absurd ‹0 = Nat.succ _› (by simp)
  | succ n ih =>
    intro v a h
    unfold absV at h
    split at h <;> try cases h
    · exact .bool _
    · exact .int _ _
    · rename_i s
      have := VR.str (m := m) (encL_lt s.data.toList)
      rw [dec_bytes] at this
      exact this
    · exact .nilp
    · exact .nils
    · exact .nilf
    · exact .nili
    · exact .fn rfl (fun i a v h => by simp at h) rfl (fun i a v h => by simp at h)
    · rename_i l e
      injection e with e; subst e
      split at h
      · cases h
      · rename_i l' hl
        cases h
        exact VR.agg' (absL_sound ih _ _ hl)
    · rename_i l e
      injection e with e; subst e
      split at h
      · cases h
      · rename_i l' hl
        cases h
        exact VR.tup' (absL_sound ih _ _ hl)
    · rename_i t v e
      injection e with e; subst e
      split at h
      · cases h
      · rename_i b hb
        cases h
        exact .ifc (ih _ _ hb)

/-- An operand. -/
noncomputable def aOp (G : Nat) (T : Tr AV) : Operand → Option AV
  | .tmp t => T.get t
  | .const v => absV 6 v
  | .global g => match Nat.blt g G with
    | true => some (.ptr g 0)
    | false => none
  | .func f => some (.fn f [] [])
def Glob (m : Ren) (G : Nat) : Prop := ∀ g, g < G → m g = some (g, 0)
section
variable {m : Ren} {G N : Nat} {T : Tr AV} {a : Act}
theorem aOp_sound (hT : TR m T N a.tmps) (hG : Glob m G) {x : Operand} {v : AV} (h : aOp G T x = some v) : VR m v (a.eval x) := by
  cases x with
  | tmp t =>
    obtain ⟨u, h1, h2⟩ := hT.2 t v h
    simp only [Act.eval, Array.getD_eq_getD_getElem?, h1, Option.getD_some]
    exact h2
  | const c => exact absV_sound m 6 c v h
  | global g =>
    simp only [aOp] at h
    split at h
    · rename_i hg
      have hg : g < G := by simpa [Nat.blt_eq] using hg
      cases h
      exact .ptr (hG g hg)
    · cases h
  | func f =>
    cases h
    exact .fn rfl (fun i a v h => by simp at h) rfl (fun i a v h => by simp at h)
noncomputable def aOps (G : Nat) (T : Tr AV) (l : List Operand) : Option (List AV) :=
  List.rec (some []) (fun x _ ih => match aOp G T x with
    | none => none
    | some a => match ih with
      | none => none
      | some l => some (a :: l)) l
theorem aOps_cons (x : Operand) (xs : List Operand) : aOps G T (x :: xs) = match aOp G T x with
    | none => none
    | some a => match aOps G T xs with
      | none => none
      | some l => some (a :: l) := rfl
/-- What is known of operands is so. -/
def OE (G : Nat) (T : Tr AV) (m : Ren) (a : Act) (xs : Array Operand) : Prop := ∀ x ∈ xs, ∀ v, aOp G T x = some v → VR m v (a.eval x)
theorem OE.of (hT : TR m T N a.tmps) (hG : Glob m G) (xs : Array Operand) : OE G T m a xs := fun _ _ _ h => aOp_sound hT hG h
theorem OE.sub {xs ys : Array Operand} (h : OE G T m a xs) (hs : ∀ y ∈ ys, y ∈ xs) : OE G T m a ys := fun y hy => h y (hs y hy)
theorem aOps_sound : ∀ (xs : List Operand) (l : List AV), (∀ x ∈ xs, ∀ v, aOp G T x = some v → VR m v (a.eval x)) → aOps G T xs = some l → LR m l (xs.map a.eval)
  | [], l, _, h => by cases h; exact LR.nil
  | x :: xs, l, hE, h => by
    rw [aOps_cons] at h
    split at h
    · cases h
    · rename_i b hb
      split at h
      · cases h
      · rename_i l' hl
        cases h
        exact LR.cons (hE x (by simp) _ hb) (aOps_sound xs l' (fun y hy => hE y (by simp [hy])) hl)

/-- Sizes. -/
def tsize (P : Program) (t : TypeId) : Option Nat := match P.info? t with | some i => some i.size | none => none
theorem run_tsize {P : Program} {t : TypeId} {s : Nat} (h : tsize P t = some s) (w : World) : (sizeOf t).run P w = .ok s w := by
  unfold tsize at h
  split at h
  · rename_i i hi
    cases h
    simp [sizeOf, typeInfo, hi]
  · cases h
def tagg (P : Program) (t : TypeId) : Option Bool := match P.underlying t with
  | some (.struct _) | some (.array _ _) => some true
  | some _ => some false
  | none => none
theorem run_tagg {P : Program} {t : TypeId} {b : Bool} (h : tagg P t = some b) (w : World) : (isAgg t).run P w = .ok b w := by
  unfold tagg at h
  split at h <;> try cases h
  · rename_i hu; simp [isAgg, run_underlying hu]
  · rename_i hu; simp [isAgg, run_underlying hu]
  · rename_i d hu h1 h2
    simp only [isAgg, Sem.run_bind, run_underlying h2, Result.andThen_ok]
    cases d <;> first | rfl | exact (hu _ rfl).elim | exact (h1 _ _ rfl).elim

/-- A part of a struct or an array held in a slot. -/
noncomputable def apart (P : Program) (t : TypeId) (l : List AV) (off : Nat) : Option AV :=
  match tagg P t with
  | none => none
  | some true => match tsize P t with
    | none => none
    | some s => match Nat.ble (off + s) l.length with
      | true => some (.agg ((l.drop off).take s))
      | false => none
  | some false => nth l off
theorem apart_sound {P : Program} {t : TypeId} {l : List AV} {off : Nat} {v : AV} (h : apart P t l off = some v) {vs : List Value} (hl : LR m l vs) : ∃ u, VR m v u ∧ ∀ w, (part t vs.toArray off).run P w = .ok u w := by
  unfold apart at h
  split at h
  · cases h
  · rename_i ht
    split at h
    · cases h
    · rename_i s hs
      split at h
      · cases h
        refine ⟨_, VR.agg' ((hl.drop off).take s), fun w => ?_⟩
        simp only [part, Sem.run_bind, run_tagg ht, Result.andThen_ok, if_true, run_tsize hs, Sem.run_pure]
        congr 2
        simp [List.extract_eq_take_drop]
      · cases h
  · rename_i ht
    rw [nth_eq] at h
    obtain ⟨u, hu, hv⟩ := hl.get h
    refine ⟨u, hv, fun w => ?_⟩
    simp [part, run_tagg ht, hu]
end
end Go.Proofs.YtknmbmdeilbdkaaGreatDoor.Ev
