/- All code; the reckoner is sound, if its drawn regions are. -/
import Derived.Test.YtknmbmdeilbdkaaGreatDoorEvY
namespace Go.Proofs.YtknmbmdeilbdkaaGreatDoor.Ev
open Go
section
variable {P : Program} {G : Nat}

/-- Regions that draw their order are sound. -/
def DrawS (P : Program) (G : Nat) : Prop := ∀ (rf rr : CallF), SoundF P G rf → SoundR P G rr → ∀ (rd : Bool) (id : Nat) (ops : Array Oper) (N : Nat) (st : St) (x : AX) (st' : St), cDraw P G rf rr ops.toList N st = some (x, st') → Walk P G rd (.region id ops true) N st x st'
theorem region_walk {rf rr : CallF} (hrf : SoundF P G rf) (hrr : SoundR P G rr) {rd : Bool} {id : Nat} {ops : Array Oper} {N : Nat} {st st' : St} {x : AX} (h : cRegion P G rf rr ops.toList N st = some (x, st')) : Walk P G rd (.region id ops false) N st x st' := by
  unfold cRegion at h
  split at h
  · cases h
  · rename_i st1 h1
    cases h
    exact ⟨aops_le hrf hrr h1, fun F m a w hF _ hG hfr hS => region_sound hrf hrr h1 hF hG hfr hS fun m' a' w' k1 k2 => ⟨rfl, m', k1, k2⟩⟩
theorem codeF_sound (hD : DrawS P G) {rc : CodeF} {rf rr : CallF} (hrc : SoundC P G rc) (hrf : SoundF P G rf) (hrr : SoundR P G rr) : SoundC P G (codeF P G rc rf rr) := by
  intro rd code N st x st' h
  show Walk P G rd code N st x st'
  unfold codeF at h
  split at h
  · cases h
    exact ⟨Nat.le_refl _, fun F m a w _ _ _ _ hS => wpIn_skip (CQ.refl hS)⟩
  · cases h
    exact ⟨Nat.le_refl _, fun F m a w _ _ _ _ hS => wpIn_label (CQ.refl hS)⟩
  · exact seq_sound hrc h
  · exact cond_sound hrc h
  · exact block_sound hrc h
  · exact loop_sound hrc h
  · cases h
    exact ⟨Nat.le_refl _, fun F m a w _ _ _ _ hS => wpIn_exit (CQ.refl (x := .exit _) hS)⟩
  · cases h
    exact ⟨Nat.le_refl _, fun F m a w _ _ _ _ hS => wpIn_ret (CQ.refl (x := .ret) hS)⟩
  · split at h
    · exact hD rf rr hrf hrr _ _ _ _ _ _ _ h
    · exact region_walk hrf hrr h
  · exact range_sound hrc hrf h
  · cases h
theorem ev_succ (n : Nat) : ev P G (n + 1) = ⟨codeF P G (ev P G n).code (ev P G n).call (ev P G n).round, callF P (ev P G n).code, roundF (ev P G n).code⟩ := rfl
theorem ev_sound (hD : DrawS P G) : ∀ n, SoundC P G (ev P G n).code ∧ SoundF P G (ev P G n).call ∧ SoundR P G (ev P G n).round
  | 0 => by
    refine ⟨?_, ?_, ?_⟩
    · intro rd code N st x st' h; cases h
    · intro f args H c r h; cases h
    · intro q args H c r h; cases h
  | n + 1 => by
    obtain ⟨h1, h2, h3⟩ := ev_sound hD n
    rw [ev_succ]
    exact ⟨codeF_sound hD h1 h2 h3, callF_sound h1, roundF_sound h1⟩
end
end Go.Proofs.YtknmbmdeilbdkaaGreatDoor.Ev
