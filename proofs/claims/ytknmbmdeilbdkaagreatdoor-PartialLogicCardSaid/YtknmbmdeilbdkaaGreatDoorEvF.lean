/- Slice expressions, struct literals, conversions, functions and interfaces: operations that touch no memory. -/
import Derived.Test.YtknmbmdeilbdkaaGreatDoorEvE
namespace Go.Proofs.YtknmbmdeilbdkaaGreatDoor.Ev
open Go
section
variable {P : Program} {m : Ren}

def NatO (o : Option Nat) (v : Option Value) : Prop := match o, v with
  | none, none => True
  | some n, some v => ∃ k, v = .int k (n : Int)
  | _, _ => False
theorem run_sliceBoundN (k : IntKind) (i y : Nat) (code : BoundsCode) (h : i ≤ y) (w : World) : (Instr.sliceBound (.int k (i : Int)) y code).run P w = .ok i w := by
  rw [run_sliceBound w k i y code (by omega) (by omega)]; simp
theorem run_bounds {isS : Bool} {len cap : Nat} {lo hi mx : Option Nat} {vlo vhi vmx : Option Value} (h1 : NatO lo vlo) (h2 : NatO hi vhi) (h3 : NatO mx vmx) (hm : mx.getD cap ≤ cap) (hh : hi.getD len ≤ mx.getD cap) (hl : lo.getD 0 ≤ hi.getD len)
    (hx : mx.isSome = true → hi.isSome = true) (w : World) : (Instr.sliceBounds isS len cap vlo vhi vmx).run P w = .ok (lo.getD 0, hi.getD len, mx.getD cap) w := by
  cases mx with
  | none =>
    cases vmx with
    | some v => exact h3.elim
    | none =>
      cases hi with
      | none =>
        cases vhi with
        | some v => exact h2.elim
        | none =>
          cases lo with
          | none => cases vlo with
            | some v => exact h1.elim
            | none => simp [Instr.sliceBounds]
          | some l => cases vlo with
            | none => exact h1.elim
            | some v =>
              obtain ⟨k, rfl⟩ := h1
              simp only [Option.getD_some, Option.getD_none] at *
              simp [Instr.sliceBounds, run_sliceBoundN k l len _ hl w]
      | some h =>
        cases vhi with
        | none => exact h2.elim
        | some v =>
          obtain ⟨k2, rfl⟩ := h2
          cases lo with
          | none => cases vlo with
            | some v => exact h1.elim
            | none =>
              simp only [Option.getD_some, Option.getD_none] at *
              simp [Instr.sliceBounds, run_sliceBoundN k2 h cap _ hh w]
          | some l => cases vlo with
            | none => exact h1.elim
            | some v =>
              obtain ⟨k, rfl⟩ := h1
              simp only [Option.getD_some, Option.getD_none] at *
              simp [Instr.sliceBounds, run_sliceBoundN k2 h cap _ hh w, run_sliceBoundN k l h _ hl w]
  | some mm =>
    cases vmx with
    | none => exact h3.elim
    | some v =>
      obtain ⟨k3, rfl⟩ := h3
      cases hi with
      | none => simp at hx
      | some h =>
        cases vhi with
        | none => exact h2.elim
        | some v =>
          obtain ⟨k2, rfl⟩ := h2
          cases lo with
          | none => cases vlo with
            | some v => exact h1.elim
            | none =>
              simp only [Option.getD_some, Option.getD_none] at *
              simp [Instr.sliceBounds, run_sliceBoundN k3 mm cap _ hm w, run_sliceBoundN k2 h mm _ hh w]
          | some l => cases vlo with
            | none => exact h1.elim
            | some v =>
              obtain ⟨k, rfl⟩ := h1
              simp only [Option.getD_some, Option.getD_none] at *
              simp [Instr.sliceBounds, run_sliceBoundN k3 mm cap _ hm w, run_sliceBoundN k2 h mm _ hh w, run_sliceBoundN k l h _ hl w]

def anatO : Option AV → Option (Option Nat)
  | none => some none
  | some a => match anat a with
    | none => none
    | some n => some (some n)
def VRO (m : Ren) : Option AV → Option Value → Prop
  | none, none => True
  | some a, some v => VR m a v
  | _, _ => False
theorem anatO_eq {a : Option AV} {o : Option Nat} (h : anatO a = some o) {v : Option Value} (hv : VRO m a v) : NatO o v := by
  cases a with
  | none => cases v with
    | none => cases h; trivial
    | some v => exact hv.elim
  | some a => cases v with
    | none => exact hv.elim
    | some v =>
      simp only [anatO] at h
      split at h
      · cases h
      · rename_i n hn
        cases h
        exact anat_eq hn hv

def okB (len cap : Nat) (lo hi mx : Option Nat) : Bool :=
  Nat.ble (mx.getD cap) cap && (Nat.ble (hi.getD len) (mx.getD cap) && (Nat.ble (lo.getD 0) (hi.getD len) && (!mx.isSome || hi.isSome)))
theorem okB_spec {len cap : Nat} {lo hi mx : Option Nat} (h : okB len cap lo hi mx = true) : mx.getD cap ≤ cap ∧ hi.getD len ≤ mx.getD cap ∧ lo.getD 0 ≤ hi.getD len ∧ (mx.isSome = true → hi.isSome = true) := by
  unfold okB at h
  simp only [Bool.and_eq_true, Nat.ble_eq] at h
  refine ⟨h.1, h.2.1, h.2.2.1, fun hm => ?_⟩
  have := h.2.2.2
  rw [hm] at this
  simpa using this

/-- s[lo:hi:mx]. -/
noncomputable def aslice (P : Program) (t : TypeId) (x : AV) (lo hi mx : Option AV) : Option AV :=
  match anatO lo, anatO hi, anatO mx with
  | some l, some h, some q => match P.underlying t, x with
    | some (.array n e), .ptr b off => match okB n n l h q, tsize P e with
      | true, some s => mkS b (match Nat.beq (q.getD n) (l.getD 0) with | true => off | false => off + l.getD 0 * s) (h.getD n - l.getD 0) (q.getD n - l.getD 0) true
      | _, _ => none
    | some .string, .str len code => match okB len len l h q, q with
      | true, none => mkStr (h.getD len - l.getD 0) (code / 256 ^ l.getD 0 % 256 ^ (h.getD len - l.getD 0))
      | _, _ => none
    | some (.slice _), .nils => match okB 0 0 l h q, tsize P (P.elem t) with
      | true, some _ => some .nils
      | _, _ => none
    | some (.slice e), .sl b off len cap ex => match okB len cap l h q, tsize P e, q with
      | true, some s, some q => mkS b (match Nat.beq q (l.getD 0) with | true => off | false => off + l.getD 0 * s) (h.getD len - l.getD 0) (q - l.getD 0) true
      | true, some s, none => match Nat.blt (l.getD 0) cap with
        | true => mkS b (off + l.getD 0 * s) (h.getD len - l.getD 0) (cap - l.getD 0) ex
        | false => match ex with
          | true => some (.sl b off 0 0 true)
          | false => some .emp
      | _, _, _ => none
    | _, _ => none
  | _, _, _ => none
theorem okB_more {len cap δ : Nat} {lo hi : Option Nat} (h : okB len cap lo hi none = true) : okB len (cap + δ) lo hi none = true := by
  have := okB_spec h
  unfold okB
  simp only [Option.getD_none, Bool.and_eq_true, Nat.ble_eq] at *
  refine ⟨by omega, by omega, by omega, by simp⟩
theorem okB_moreq {len cap δ q : Nat} {lo hi : Option Nat} (h : okB len cap lo hi (some q) = true) : okB len (cap + δ) lo hi (some q) = true := by
  have := okB_spec h
  unfold okB
  simp only [Option.getD_some, Bool.and_eq_true, Nat.ble_eq] at *
  refine ⟨by omega, by omega, by omega, ?_⟩
  have h5 := this.2.2.2 (by simp)
  simp [h5]
theorem aslice_sound {t : TypeId} {x v : AV} {lo hi mx : Option AV} (h : aslice P t x lo hi mx = some v) {u : Value} (hx : VR m x u) {vlo vhi vmx : Option Value} (h1 : VRO m lo vlo) (h2 : VRO m hi vhi) (h3 : VRO m mx vmx) :
    ∃ r, VR m v r ∧ ∀ w, (Instr.sliceAt t u vlo vhi vmx).run P w = .ok r w := by
  unfold aslice at h
  simp only [mkS_eq, mkStr_eq] at h
  split at h
  · rename_i l hh q e1 e2 e3
    have n1 := anatO_eq e1 h1
    have n2 := anatO_eq e2 h2
    have n3 := anatO_eq e3 h3
    split at h
    · rename_i n e b off hu
      split at h
      · rename_i s hok hs
        obtain ⟨a1, a2, a3, a4⟩ := okB_spec hok
        cases h
        cases hx with
        | @ptr _ _ blk δ hb =>
          refine ⟨_, .sl hb, fun w => ?_⟩
          simp only [Instr.sliceAt, Sem.run_bind, run_underlying hu, Result.andThen_ok, Instr.sureAddr, Sem.run_pure, run_bounds (isS := false) n1 n2 n3 a1 a2 a3 a4, run_tsize hs, if_true]
          rw [beq_dec]
          by_cases hq : q.getD n = l.getD 0
          · simp [hq]
          · simp [hq, add_plain]
      · cases h
    · rename_i len code hu
      split at h
      · rename_i hok
        obtain ⟨a1, a2, a3, a4⟩ := okB_spec hok
        simp only [Option.getD_none] at a1 a2
        cases h
        cases hx with
        | str hc =>
          have hvn : vmx = none := by cases vmx with
            | none => rfl
            | some _ => exact n3.elim
          subst hvn
          refine ⟨.string (dec (hh.getD len - l.getD 0) (code / 256 ^ l.getD 0 % 256 ^ (hh.getD len - l.getD 0))), .str (Nat.mod_lt _ (Nat.pos_of_ne_zero (by simp))), fun w => ?_⟩
          have hb := run_bounds (P := P) (isS := false) (len := len) (cap := len) n1 n2 n3 a1 a2 a3 a4 w
          simp only [Instr.sliceAt, Sem.run_bind, run_underlying hu, Result.andThen_ok, Instr.slice, Option.isSome_none, Bool.false_eq_true, if_false, Sem.run_pure, dec_size]
          rw [hb]
          simp only [Result.andThen_ok, Sem.run_pure]
          congr 2
          have ext : (dec len code).extract (l.getD 0) (hh.getD len) = ⟨((decL len code).toArray).extract (l.getD 0) (hh.getD len)⟩ := by
            apply ByteArray.ext
            simp [dec]
          rw [ext]
          unfold dec
          congr 1
          rw [List.extract_toArray, List.extract_eq_take_drop, decL_drop, decL_take _ _ _ (by omega)]
      · cases h
    · rename_i e hu
      split at h
      · rename_i s hok hs
        obtain ⟨a1, a2, a3, a4⟩ := okB_spec hok
        cases h
        cases hx
        refine ⟨_, .nils, fun w => ?_⟩
        have hel : P.elem t = e := by simp [Program.elem, hu]
        rw [hel] at hs
        have z1 : q.getD 0 = 0 := by omega
        have z2 : hh.getD 0 = 0 := by omega
        have z3 : l.getD 0 = 0 := by omega
        simp only [Instr.sliceAt, Sem.run_bind, run_underlying hu, Result.andThen_ok, Instr.slice, Sem.run_pure, run_bounds (isS := true) n1 n2 n3 a1 a2 a3 a4, run_tsize hs, z1, z2, z3, if_true]
      · cases h
    · rename_i e b off len cap ex hu
      cases hx with
      | @sl _ _ _ _ _ blk δ hb =>
        split at h
        · rename_i s q' hs hok
          cases h
          have hok' : okB len (if ex then cap else cap + δ) l hh (some q') = true := by
            cases ex
            · exact okB_moreq hok
            · exact hok
          obtain ⟨a1, a2, a3, a4⟩ := okB_spec hok'
          refine ⟨_, .sl hb, fun w => ?_⟩
          simp only [Instr.sliceAt, Sem.run_bind, run_underlying hu, Result.andThen_ok, Instr.slice, Sem.run_pure, run_bounds (isS := true) n1 n2 n3 a1 a2 a3 a4, run_tsize hs, Option.getD_some, if_true]
          rw [beq_dec]
          by_cases hq : q' = l.getD 0
          · simp [hq]
          · simp [hq, add_plain]
        · rename_i s hs hok
          have hok' : okB len (if ex then cap else cap + δ) l hh none = true := by
            cases ex
            · exact okB_more hok
            · exact hok
          obtain ⟨a1, a2, a3, a4⟩ := okB_spec hok'
          obtain ⟨b1, b2, b3, _⟩ := okB_spec hok
          simp only [Option.getD_none] at a1 a2 b1 b2
          split at h
          · rename_i hlt
            have hlt : l.getD 0 < cap := by simpa [Nat.blt_eq] using hlt
            cases h
            refine ⟨.slice (some ⟨blk, off + l.getD 0 * s, none⟩) (hh.getD len - l.getD 0) (if ex then cap - l.getD 0 else cap - l.getD 0 + δ), .sl hb, fun w => ?_⟩
            have hb' := run_bounds (P := P) (isS := true) (len := len) (cap := if ex then cap else cap + δ) n1 n2 n3 a1 a2 a3 a4 w
            simp only [Instr.sliceAt, Sem.run_bind, run_underlying hu, Result.andThen_ok, Instr.slice, Sem.run_pure]
            rw [hb']
            simp only [Result.andThen_ok, Sem.run_bind, run_tsize hs, Sem.run_pure, Option.getD_none]
            cases ex
            · simp only [Bool.false_eq_true, if_false]
              rw [if_neg (by omega), show cap + δ - l.getD 0 = cap - l.getD 0 + δ by omega]
              simp [add_plain]
            · simp only [if_true]
              rw [if_neg (by omega)]
              simp [add_plain]
          · rename_i hlt
            have hlt : ¬ l.getD 0 < cap := by
              intro h'
              have : Nat.blt (l.getD 0) cap = true := by simpa [Nat.blt_eq] using h'
              rw [this] at hlt; cases hlt
            split at h
            · cases h
              refine ⟨.slice (some ⟨blk, off, none⟩) 0 0, by simpa using (VR.sl (off := off) (len := 0) (cap := 0) (ex := true) hb), fun w => ?_⟩
              have hb' := run_bounds (P := P) (isS := true) (len := len) (cap := cap) n1 n2 n3 b1 b2 b3 a4 w
              simp only [Instr.sliceAt, Sem.run_bind, run_underlying hu, Result.andThen_ok, Instr.slice, Sem.run_pure, if_true]
              rw [hb']
              simp only [Result.andThen_ok, Sem.run_bind, run_tsize hs, Sem.run_pure, Option.getD_none]
              rw [if_pos (by omega), show hh.getD len - l.getD 0 = 0 by omega, show cap - l.getD 0 = 0 by omega]
            · cases h
              refine ⟨.slice (some (if cap + δ = l.getD 0 then ⟨blk, off, none⟩ else ⟨blk, off + l.getD 0 * s, none⟩)) 0 (cap + δ - l.getD 0), .emp _ _, fun w => ?_⟩
              have hb' := run_bounds (P := P) (isS := true) (len := len) (cap := cap + δ) n1 n2 n3 a1 a2 a3 a4 w
              simp only [Instr.sliceAt, Sem.run_bind, run_underlying hu, Result.andThen_ok, Instr.slice, Sem.run_pure, Bool.false_eq_true, if_false]
              rw [hb']
              simp only [Result.andThen_ok, Sem.run_bind, run_tsize hs, Sem.run_pure, Option.getD_none]
              rw [show hh.getD len - l.getD 0 = 0 by omega]
              by_cases e0 : cap + δ = l.getD 0
              · simp [e0]
              · simp [e0, add_plain]
        · cases h
    · cases h
  · cases h
end
end Go.Proofs.YtknmbmdeilbdkaaGreatDoor.Ev
