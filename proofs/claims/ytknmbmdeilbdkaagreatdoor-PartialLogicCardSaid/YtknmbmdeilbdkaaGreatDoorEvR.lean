/- Every operation but calls of functions. -/
import Derived.Test.YtknmbmdeilbdkaaGreatDoorEvQ
namespace Go.Proofs.YtknmbmdeilbdkaaGreatDoor.Ev
open Go
section
variable {P : Program} {m : Ren} {w : World} {H H' : Tr AB} {G N : Nat} {T : Tr AV} {a : Act}

theorem pure_ES (hR : Rel m H.get w) {c : Nat} {o : Oper} {r : MR} (h : mkM (apure P G T o.op) H c = some r) (hE : OE G T m a o.op.operands) : c ≤ r.c ∧ (Fresh m c r.c → ES P m H w c r (execOp a.eval o)) := by
  obtain ⟨v, hv, rfl⟩ := mkM_inv h
  obtain ⟨u, h1, h2⟩ := apure_sound hv hE
  exact ⟨Nat.le_refl _, fun _ => ⟨.value u, u, w, m, h2 w, Or.inl rfl, h1, hR, Fr.refl fun _ _ h => h⟩⟩
theorem VS.ret {c : Nat} {r : MR} {s : Sem Value} (h : VS P m H w c r.v r.H r.c s) : ES P m H w c r (do pure (Next.value (← s)) : Sem Next) := h.exec
theorem amApp_inv {f : Program → Tr AB → Nat → List TypeId → AV → AV → Option MR} {xs : List Operand} {ts : List TypeId} {c : Nat} {r : MR} (h : amApp P G T H c f xs ts = some r) : ∃ s x v u, xs = [s, x] ∧ aOp G T s = some v ∧ aOp G T x = some u ∧ f P H c ts v u = some r := by
  unfold amApp at h
  split at h
  · split at h
    · rename_i h1 h2; exact ⟨_, _, _, _, rfl, h1, h2, h⟩
    · cases h
  · cases h
theorem aexec_ES (hR : Rel m H.get w) {rf rr : CallF} {c : Nat} {o : Oper} {r : MR} (h : aexec P G rf rr T H c o.op = some r) (hE : OE G T m a o.op.operands) (hv : ∀ cl f, o.op = .call cl → cl.callee ≠ .value f) :
    c ≤ r.c ∧ (Fresh m c r.c → ES P m H w c r (execOp a.eval o)) := by
  have hp := fun (h : mkM (apure P G T o.op) H c = some r) => pure_ES (a := a) hR h hE
  generalize ho : o.op = p at h hE hp
  have E := fun {x : Operand} {v : AV} (h : aOp G T x = some v) (hx : x ∈ p.operands) => hE x hx v h
  unfold aexec at h
  split at h
  · rename_i cl
    obtain ⟨ce, ⟨xs⟩, ⟨ts⟩⟩ := cl
    unfold amCall at h
    split at h
    · rename_i f hf; exact (hv _ f ho hf).elim
    · rename_i b hb
      have hb : ce = .builtin b := hb
      subst hb
      simp only at h
      unfold amBuiltin at h
      split at h
      · obtain ⟨s, x, v, u, rfl, h1, h2, h3⟩ := amApp_inv h
        obtain ⟨k1, k2⟩ := append_VS hR h3 (E h1 (by simp [Op.operands, Call.operands])) (E h2 (by simp [Op.operands, Call.operands])) (ty := o.type)
        exact ⟨k1, fun hf => by have := (k2 hf).ret; simpa [execOp, ho, resolve, invoke, builtin] using this⟩
      · obtain ⟨s, x, v, u, rfl, h1, h2, h3⟩ := amApp_inv h
        obtain ⟨k1, k2⟩ := copy_VS hR h3 (E h1 (by simp [Op.operands, Call.operands])) (E h2 (by simp [Op.operands, Call.operands])) (ty := o.type)
        exact ⟨k1, fun hf => by have := (k2 hf).ret; simpa [execOp, ho, resolve, invoke, builtin] using this⟩
      · split at h
        · split at h
          · rename_i x _ b hx
            obtain ⟨k1, k2⟩ := mapLen_VS hR h (E hx (by simp [Op.operands, Call.operands])) o.type
            exact ⟨k1, fun _ => by have := k2.ret; simpa [execOp, ho, resolve, invoke, builtin] using this⟩
          · exact hp h
        · cases h
      · split at h
        · obtain ⟨k1, k2⟩ := sliceData_VS (P := P) hR h (fun z hz => E hz (by simp [Op.operands, Call.operands])) ⟨ts⟩ o.type
          exact ⟨k1, fun _ => by have := k2.ret; simpa [execOp, ho, resolve, invoke, builtin] using this⟩
        · cases h
      · split at h
        · rename_i x n
          obtain ⟨k1, k2⟩ := string_VS (P := P) (u := a.eval x) (v := a.eval n) hR h (fun z hz => E hz (by simp [Op.operands, Call.operands])) (fun z hz => E hz (by simp [Op.operands, Call.operands])) o.type
          exact ⟨k1, fun _ => by have := k2.ret; simpa [execOp, ho, resolve, invoke, builtin] using this⟩
        · cases h
      · exact hp h
    · cases h
  · rename_i t x
    unfold amLoad at h
    split at h
    · cases h
    · rename_i v hx
      obtain ⟨k1, k2⟩ := load_VS hR h (E hx (by simp [Op.operands]))
      exact ⟨k1, fun _ => by have := k2.ret; simpa only [execOp, ho] using this⟩
  · rename_i t x y
    cases hx : aOp G T x with
    | none => rw [hx] at h; simp [amStore] at h
    | some v => cases hy : aOp G T y with
      | none => rw [hx, hy] at h; simp [amStore] at h
      | some u =>
        rw [hx, hy] at h
        obtain ⟨k1, k2⟩ := store_ES hR h (E hx (by simp [Op.operands])) (E hy (by simp [Op.operands]))
        exact ⟨k1, fun _ => by simpa only [execOp, ho] using k2⟩
  · rename_i e
    unfold amAlloc at h
    split at h
    · cases h
    · rename_i z hz
      obtain ⟨v, hv, rfl⟩ := mkM_inv h
      cases hv
      exact ⟨Nat.le_succ _, fun hf => by have := (alloc_VS hR (e := e) hz (hf c (Nat.le_refl _) (Nat.lt_succ_self _))).exec; simpa only [execOp, ho] using this⟩
  · rename_i e x
    cases hx : aOp G T x with
    | none => rw [hx] at h; simp [amBox] at h
    | some v =>
      rw [hx] at h
      simp only [amBox] at h
      split at h
      · cases h
      · rename_i l hl
        obtain ⟨u, hu, rfl⟩ := mkM_inv h
        cases hu
        exact ⟨Nat.le_succ _, fun hf => by have := (box_VS (P := P) hR (e := e) (E hx (by simp [Op.operands])) hl (hf c (Nat.le_refl _) (Nat.lt_succ_self _))).exec; simpa only [execOp, ho] using this⟩
  · rename_i t len ps
    unfold amBuildSlice at h
    split at h
    · rename_i e l ht hl
      split at h
      · rename_i ie z hie hz
        split at h
        · rename_i cs hok hcs
          obtain ⟨u, hu, rfl⟩ := mkM_inv h
          cases hu
          have hp := aparts_sound (a := a) (m := m) _ _ (fun x hx => hE x (by simp at hx; simpa [Op.operands] using hx)) hl
          exact ⟨Nat.le_succ _, fun hf => by
            have := (buildSlice_VS (P := P) (l := []) (qs := ps.map fun (i, x) => (i, a.eval x)) hR ht hie hz hok hcs (by simpa using hp) (hf c (Nat.le_refl _) (Nat.lt_succ_self _))).exec
            simpa only [execOp, ho] using this⟩
        · cases h
      · cases h
    · cases h
  · rename_i t l k
    unfold amMakeSlice at h
    split at h
    · rename_i e lv kv ht hl hk
      split at h
      · rename_i ln kn bytes z h1 h2 h3 h4
        split at h
        · rename_i hok
          obtain ⟨u, hu, rfl⟩ := mkM_inv h
          rw [mkS_eq] at hu
          cases hu
          obtain ⟨q1, e1⟩ := anat_eq h1 (E hl (by simp [Op.operands]))
          obtain ⟨q2, e2⟩ := anat_eq h2 (E hk (by simp [Op.operands]))
          exact ⟨Nat.le_succ _, fun hf => by
            have := (makeSlice_VS (P := P) (q1 := q1) (q2 := q2) hR ht h3 h4 hok (hf c (Nat.le_refl _) (Nat.lt_succ_self _))).exec
            simpa only [execOp, ho, e1, e2] using this⟩
        · cases h
      · cases h
    · cases h
  · rename_i s d x
    cases hx : aOp G T x with
    | none => rw [hx] at h; simp [amConv] at h
    | some v =>
      rw [hx] at h
      simp only [amConv] at h
      split at h
      · rename_i u hu
        refine hp ?_
        simp only [apure, ap1, hx, hu]
        exact h
      · obtain ⟨k1, k2⟩ := conv_VS hR h (E hx (by simp [Op.operands]))
        exact ⟨k1, fun hf => by have := (k2 hf).ret; simpa only [execOp, ho] using this⟩
  · rename_i t
    unfold amMakeMap at h
    split at h
    · obtain ⟨u, hu, rfl⟩ := mkM_inv h
      cases hu
      exact ⟨Nat.le_succ _, fun hf => by have := (makeMap_VS (P := P) (t := t) hR (hf c (Nat.le_refl _) (Nat.lt_succ_self _))).exec; simpa only [execOp, ho, Option.map_none] using this⟩
    · cases h
  · rename_i t x k y
    obtain ⟨k1, k2⟩ := mapUpdate_ES (P := P) hR h (p := a.eval x) (q := a.eval k) (v := a.eval y) (fun z hz => E hz (by simp [Op.operands])) (fun z hz => E hz (by simp [Op.operands])) (fun z hz => E hz (by simp [Op.operands]))
    exact ⟨k1, fun _ => by simpa only [execOp, ho] using k2⟩
  · rename_i t x k y
    obtain ⟨k1, k2⟩ := mapUpdate_ES (P := P) hR h (p := a.eval x) (q := a.eval k) (v := a.eval y) (fun z hz => E hz (by simp [Op.operands])) (fun z hz => E hz (by simp [Op.operands])) (fun z hz => E hz (by simp [Op.operands]))
    exact ⟨k1, fun _ => by simpa only [execOp, ho] using k2⟩
  · exact hp h
end
end Go.Proofs.YtknmbmdeilbdkaaGreatDoor.Ev
