/- Addresses, parts, slices, literals, conversions: operations that touch no memory. -/
import Derived.Test.YtknmbmdeilbdkaaGreatDoorEvD
import Derived.Laws.Strings
namespace Go.Proofs.YtknmbmdeilbdkaaGreatDoor.Ev
open Go
section
variable {P : Program} {m : Ren}

def tfields (P : Program) (t : TypeId) : Option (List Field) := match P.underlying t with
  | some (.struct ⟨l⟩) => some l
  | _ => none
theorem tfields_eq {t : TypeId} {l : List Field} (h : tfields P t = some l) : P.underlying t = some (.struct l.toArray) := by
  unfold tfields at h
  split at h
  · rename_i l' hu; cases h; exact hu
  · cases h

/-- The address of a field. -/
noncomputable def afieldAddr (P : Program) (s : TypeId) (x : AV) (f : Nat) : Option AV :=
  match x with
  | .ptr b off => match tfields P s with
    | none => none
    | some fs => match nth fs f with
      | none => none
      | some fd => match tsize P fd.type with
        | some (_ + 1) => mkP b (off + fd.offset)
        | _ => none
  | _ => none
theorem afieldAddr_sound {s : TypeId} {x v : AV} {f : Nat} (h : afieldAddr P s x f = some v) {u : Value} (hx : VR m x u) : ∃ r, VR m v r ∧ ∀ w, (Instr.fieldAt s u f).run P w = .ok r w := by
  unfold afieldAddr at h
  split at h
  · split at h
    · cases h
    · rename_i fs hfs
      split at h
      · cases h
      · rename_i fd hfd
        rw [nth_eq] at hfd
        split at h
        · rename_i n hn
          rw [mkP_eq] at h
          cases h
          cases hx with
          | ptr hb =>
            refine ⟨_, .ptr hb, fun w => ?_⟩
            simp [Instr.fieldAt, run_underlying (tfields_eq hfs), hfd, Instr.sureAddr, fieldPlace, run_tsize hn, add_plain]
        · cases h
  · cases h

def anat : AV → Option Nat
  | .int _ (.ofNat n) => some n
  | _ => none
theorem anat_eq {x : AV} {n : Nat} (h : anat x = some n) {u : Value} (hx : VR m x u) : ∃ k, u = .int k (n : Int) := by
  unfold anat at h
  split at h
  · cases h; cases hx; exact ⟨_, rfl⟩
  · cases h

/-- The address of an element. -/
noncomputable def aindexAddr (P : Program) (t : TypeId) (x ix : AV) : Option AV :=
  match anat ix with
  | none => none
  | some i => match P.underlying t, x with
    | some (.array n e), .ptr b off => match Nat.blt i n, tsize P e with
      | true, some s => mkP b (off + i * s)
      | _, _ => none
    | some (.slice e), .sl b off len _ _ => match Nat.blt i len, tsize P e with
      | true, some s => mkP b (off + i * s)
      | _, _ => none
    | _, _ => none
theorem aindexAddr_sound {t : TypeId} {x ix v : AV} (h : aindexAddr P t x ix = some v) {u i' : Value} (hx : VR m x u) (hi : VR m ix i') : ∃ r, VR m v r ∧ ∀ w, (Instr.indexAt t u i').run P w = .ok r w := by
  unfold aindexAddr at h
  split at h
  · cases h
  · rename_i i hn
    obtain ⟨k, rfl⟩ := anat_eq hn hi
    split at h
    · rename_i n e b off hu
      split at h
      · rename_i s hlt hs
        have hlt : i < n := by simpa [Nat.blt_eq] using hlt
        rw [mkP_eq] at h
        cases h
        cases hx with
        | ptr hb =>
          refine ⟨_, .ptr hb, fun w => ?_⟩
          simp [Instr.indexAt, asIntOf, run_underlying hu, Instr.sureAddr, run_tsize hs, add_plain, hlt]
      · cases h
    · rename_i e b off len cap ex hu
      split at h
      · rename_i s hlt hs
        have hlt : i < len := by simpa [Nat.blt_eq] using hlt
        rw [mkP_eq] at h
        cases h
        cases hx with
        | sl hb =>
          refine ⟨_, .ptr hb, fun w => ?_⟩
          simp [Instr.indexAt, asIntOf, run_underlying hu, run_tsize hs, add_plain, hlt]
      · cases h
    · cases h

/-- A field of a struct in a slot. -/
noncomputable def afield (P : Program) (s : TypeId) (x : AV) (f : Nat) : Option AV :=
  match x with
  | .agg l => match tfields P s with
    | none => none
    | some fs => match nth fs f with
      | none => none
      | some fd => apart P fd.type l fd.offset
  | _ => none
theorem afield_sound {s : TypeId} {x v : AV} {f : Nat} (h : afield P s x f = some v) {u : Value} (hx : VR m x u) : ∃ r, VR m v r ∧ ∀ w, (Instr.field s u f).run P w = .ok r w := by
  unfold afield at h
  split at h
  · split at h
    · cases h
    · rename_i fs hfs
      split at h
      · cases h
      · rename_i fd hfd
        rw [nth_eq] at hfd
        obtain ⟨vs, rfl, hl⟩ := hx.agg_inv
        obtain ⟨r, h1, h2⟩ := apart_sound h hl
        refine ⟨r, h1, fun w => ?_⟩
        simp [Instr.field, run_underlying (tfields_eq hfs), hfd, asAgg, h2]
  · cases h

/-- An element of an array in a slot, or a byte of a string. -/
noncomputable def aindex (P : Program) (t : TypeId) (x ix : AV) : Option AV :=
  match anat ix with
  | none => none
  | some i => match P.underlying t, x with
    | some (.array n e), .agg l => match Nat.blt i n, tsize P e with
      | true, some s => apart P e l (i * s)
      | _, _ => none
    | some .string, .str len code => match Nat.blt i len with
      | true => mkI .u8 (.ofNat (code / 256 ^ i % 256))
      | false => none
    | _, _ => none
theorem dec_size (len code : Nat) : (dec len code).size = len := by
  show ((decL len code).toArray).size = len
  simp [decL_length]
theorem dec_get {len code i : Nat} (h : i < len) : (dec len code)[i]? = some (UInt8.ofNat (code / 256 ^ i % 256)) := by
  have e : (dec len code)[i]? = ((decL len code).toArray)[i]? := by
    unfold dec
    by_cases h : i < ((decL len code).toArray).size
    · rw [Array.getElem?_eq_getElem h, getElem?_pos _ _ (by exact h)]; rfl
    · rw [Array.getElem?_eq_none (by omega), getElem?_neg _ _ (by exact h)]
  rw [e]
  simp [decL_get, h]
theorem aindex_sound {t : TypeId} {x ix v : AV} (h : aindex P t x ix = some v) {u i' : Value} (hx : VR m x u) (hi : VR m ix i') : ∃ r, VR m v r ∧ ∀ w, (Instr.index t u i').run P w = .ok r w := by
  unfold aindex at h
  split at h
  · cases h
  · rename_i i hn
    obtain ⟨k, rfl⟩ := anat_eq hn hi
    split at h
    · rename_i n e l hu
      split at h
      · rename_i s hlt hs
        have hlt : i < n := by simpa [Nat.blt_eq] using hlt
        obtain ⟨vs, rfl, hl⟩ := hx.agg_inv
        obtain ⟨r, h1, h2⟩ := apart_sound h hl
        refine ⟨r, h1, fun w => ?_⟩
        simp [Instr.index, asIntOf, run_underlying hu, run_tsize hs, hlt, h2]
      · cases h
    · rename_i len code hu
      split at h
      · rename_i hlt
        have hlt : i < len := by simpa [Nat.blt_eq] using hlt
        rw [mkI_eq] at h
        cases h
        cases hx with
        | str hc =>
          refine ⟨_, .int _ _, fun w => ?_⟩
          simp [Instr.index, asIntOf, run_underlying hu, dec_get hlt]
      · cases h
    · cases h

noncomputable def aextract (x : AV) (i : Nat) : Option AV :=
  match x with
  | .tup l => nth l i
  | _ => none
theorem aextract_sound {x v : AV} {i : Nat} (h : aextract x i = some v) {u : Value} (hx : VR m x u) : ∃ r, VR m v r ∧ ∀ w, (Instr.extract u i).run P w = .ok r w := by
  unfold aextract at h
  split at h
  · rw [nth_eq] at h
    obtain ⟨vs, rfl, hl⟩ := hx.tup_inv
    obtain ⟨r, h1, h2⟩ := hl.get h
    exact ⟨r, h2, fun w => by simp [Instr.extract, h1]⟩
  · cases h
end
end Go.Proofs.YtknmbmdeilbdkaaGreatDoor.Ev
