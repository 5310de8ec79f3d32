/- Code but for regions and loops over functions. -/
import Derived.Test.YtknmbmdeilbdkaaGreatDoorEvT
namespace Go.Proofs.YtknmbmdeilbdkaaGreatDoor.Ev
open Go
section
variable {P : Program} {G : Nat}

/-- What code does from a state on. -/
def Walk (P : Program) (G : Nat) (rd : Bool) (code : Code) (N : Nat) (st : St) (x : AX) (st' : St) : Prop := st.c ≤ st'.c ∧
  ∀ (F : Fence) (m : Ren) (a : Act) (w : World), FOk F → (rd = false → F.round = none) → Glob m G → Fresh m st.c st'.c → SR N m st a w → code.wpIn F 0 P (CQ N m st w x st') a w
theorem CQ.refl {N : Nat} {m : Ren} {st : St} {a : Act} {w : World} {x : AX} (h : SR N m st a w) : CQ N m st w x st x.out a w := ⟨rfl, m, h, Fr.refl fun _ _ h => h⟩
theorem CQ.trans {N : Nat} {m m1 : Ren} {st st1 st2 : St} {w w1 : World} {x : AX} {e : Exit} {a' : Act} {w' : World} (h1 : Fr m st.H.get w m1 st1.H.get w1 st.c st1.c) (hc1 : st.c ≤ st1.c) (hc2 : st1.c ≤ st2.c) (h : CQ N m1 st1 w1 x st2 e a' w') : CQ N m st w x st2 e a' w' := by
  obtain ⟨he, m', h2, h3⟩ := h
  exact ⟨he, m', h2, h1.trans h3 hc1 hc2⟩
theorem out_normal {x : AX} (h : x ≠ .norm) : x.out ≠ .normal := by cases x <;> simp_all [AX.out]
theorem then_out {K : Act → World → Prop} {Q : Exit → Act → World → Prop} {x : AX} (hx : x ≠ .norm) {a : Act} {w : World} : Exit.then K Q x.out a w = Q x.out a w := by
  cases x <;> first | exact (hx rfl).elim | rfl
/-- Two pieces one behind the other, of whatever code. -/
theorem Walk.thenIn {rd : Bool} {a b : Code} {N : Nat} {st st1 st2 : St} {x : AX} (h1 : Walk P G rd a N st .norm st1) (h2 : Walk P G rd b N st1 x st2) : Walk P G rd (.seq a b) N st x st2 := by
  refine ⟨Nat.le_trans h1.1 h2.1, fun F m act w hF hrd hG hfr hS => wpIn_seq (wpIn_mono (h1.2 F m act w hF hrd hG (hfr.sub (Nat.le_refl _) h2.1) hS) ?_)⟩
  rintro e a1 w1 ⟨rfl, m1, hS1, hf1⟩
  exact wpIn_mono (h2.2 F m1 a1 w1 hF hrd (hf1.glob hG) (hf1.fresh hfr h1.1) hS1) fun e a' w' h => h.trans hf1 h1.1 h2.1
theorem Walk.thenOut {rd : Bool} {a b : Code} {N : Nat} {st st1 : St} {x : AX} (h1 : Walk P G rd a N st x st1) (hx : x ≠ .norm) : Walk P G rd (.seq a b) N st x st1 := by
  refine ⟨h1.1, fun F m act w hF hrd hG hfr hS => wpIn_seq (wpIn_mono (h1.2 F m act w hF hrd hG hfr hS) ?_)⟩
  rintro e a1 w1 ⟨rfl, h⟩
  rw [then_out hx]
  exact ⟨rfl, h⟩
theorem seq_sound {rc : CodeF} (hrc : SoundC P G rc) {rd : Bool} {a b : Code} {N : Nat} {st st' : St} {x : AX} (h : cSeq rc rd a b N st = some (x, st')) : Walk P G rd (.seq a b) N st x st' := by
  unfold cSeq at h
  split at h
  · rename_i st1 h1
    exact Walk.thenIn (hrc _ _ _ _ _ _ h1) (hrc _ _ _ _ _ _ h)
  · rename_i hn
    exact Walk.thenOut (hrc _ _ _ _ _ _ h) fun e => hn st' (by rw [h, e])
theorem cond_sound {rc : CodeF} (hrc : SoundC P G rc) {rd : Bool} {c : Operand} {a b : Code} {N : Nat} {st st' : St} {x : AX} (h : cCond G rc rd c a b N st = some (x, st')) : Walk P G rd (.cond c a b) N st x st' := by
  unfold cCond at h
  split at h
  · rename_i hc
    obtain ⟨k1, k2⟩ := hrc _ _ _ _ _ _ h
    exact ⟨k1, fun F m act w hF hrd hG hfr hS => wpIn_cond_true (aOp_sound hS.T hG hc).bool_inv (k2 F m act w hF hrd hG hfr hS)⟩
  · rename_i hc
    obtain ⟨k1, k2⟩ := hrc _ _ _ _ _ _ h
    exact ⟨k1, fun F m act w hF hrd hG hfr hS => wpIn_cond_false (aOp_sound hS.T hG hc).bool_inv (k2 F m act w hF hrd hG hfr hS)⟩
  · cases h
theorem block_sound {rc : CodeF} (hrc : SoundC P G rc) {rd : Bool} {id : Nat} {body : Code} {N : Nat} {st st' : St} {x : AX} (h : cBlock rc rd id body N st = some (x, st')) : Walk P G rd (.block id body) N st x st' := by
  unfold cBlock at h
  split at h
  · rename_i i st1 h1
    obtain ⟨k1, k2⟩ := hrc _ _ _ _ _ _ h1
    split at h
    · rename_i hi
      have hi := Nat.eq_of_beq_eq_true hi
      subst hi
      cases h
      refine ⟨k1, fun F m act w hF hrd hG hfr hS => wpIn_block (wpIn_mono (k2 F m act w hF hrd hG hfr hS) ?_)⟩
      rintro e a1 w1 ⟨rfl, h⟩
      simp only [AX.out, Exit.inBlock, if_true]
      exact ⟨rfl, h⟩
    · rename_i hi
      have hi := Nat.ne_of_beq_eq_false hi
      cases h
      refine ⟨k1, fun F m act w hF hrd hG hfr hS => wpIn_block (wpIn_mono (k2 F m act w hF hrd hG hfr hS) ?_)⟩
      rintro e a1 w1 ⟨rfl, h⟩
      simp only [AX.out, Exit.inBlock, hi, if_false]
      exact ⟨rfl, h⟩
  · rename_i hn
    obtain ⟨k1, k2⟩ := hrc _ _ _ _ _ _ h
    refine ⟨k1, fun F m act w hF hrd hG hfr hS => wpIn_block (wpIn_mono (k2 F m act w hF hrd hG hfr hS) ?_)⟩
    rintro e a1 w1 ⟨rfl, h'⟩
    cases x with
    | exit i => exact (hn i st' h).elim
    | norm => exact ⟨rfl, h'⟩
    | goto l => exact ⟨rfl, h'⟩
    | ret => exact ⟨rfl, h'⟩
theorem aloop_succ (f : St → Option (AX × St)) (n : Nat) (st : St) : aloop f (n + 1) st = match f st with
    | some (.norm, st') => aloop f n st'
    | r => r := rfl
theorem rounds_sound {rc : CodeF} (hrc : SoundC P G rc) {rd : Bool} {body : Code} {N : Nat} {x : AX} {st' : St} : ∀ (n : Nat) (st : St), aloop (fun st => rc rd body N st) n st = some (x, st') → st.c ≤ st'.c ∧
    ∀ (F : Fence) (m : Ren) (a : Act) (w : World), FOk F → (rd = false → F.round = none) → Glob m G → Fresh m st.c st'.c → SR N m st a w → ∀ Q : Exit → Act → World → Prop, (∀ e a w', CQ N m st w x st' e a w' → Q e a w') → Code.roundsIn F 0 P body Q n a w
  | 0, st, h => by cases h
  | n + 1, st, h => by
    rw [aloop_succ] at h
    split at h
    · rename_i st1 h1
      obtain ⟨k1, k2⟩ := hrc _ _ _ _ _ _ h1
      obtain ⟨k3, k4⟩ := rounds_sound hrc n st1 h
      refine ⟨Nat.le_trans k1 k3, fun F m a w hF hrd hG hfr hS Q hQ => ?_⟩
      rw [roundsIn_succ]
      refine wpIn_mono (k2 F m a w hF hrd hG (hfr.sub (Nat.le_refl _) k3) hS) ?_
      rintro e a1 w1 ⟨rfl, m1, hS1, hf1⟩
      exact k4 F m1 a1 w1 hF hrd (hf1.glob hG) (hf1.fresh hfr k1) hS1 Q fun e a w' h => hQ _ _ _ (h.trans hf1 k1 k3)
    · rename_i hn
      obtain ⟨k1, k2⟩ := hrc _ _ _ _ _ _ h
      refine ⟨k1, fun F m a w hF hrd hG hfr hS Q hQ => ?_⟩
      rw [roundsIn_succ]
      refine wpIn_mono (k2 F m a w hF hrd hG hfr hS) ?_
      rintro e a1 w1 ⟨rfl, h'⟩
      rw [then_out (fun e => hn st' (by rw [h, e]))]
      exact hQ _ _ _ ⟨rfl, h'⟩
theorem loop_sound {rc : CodeF} (hrc : SoundC P G rc) {rd : Bool} {body : Code} {N n : Nat} {x : AX} {st st' : St} (h : aloop (fun st => rc rd body N st) n st = some (x, st')) : Walk P G rd (.loop body) N st x st' := by
  obtain ⟨k1, k2⟩ := rounds_sound hrc n st h
  exact ⟨k1, fun F m a w hF hrd hG hfr hS => wpIn_loop_rounds n (k2 F m a w hF hrd hG hfr hS _ fun _ _ _ h => h)⟩
end
end Go.Proofs.YtknmbmdeilbdkaaGreatDoor.Ev
