/- A piece of a long run, looked at by the kernel. -/
import Derived.Test.YtknmbmdeilbdkaaGreatDoorEwF
namespace Go.Proofs.YtknmbmdeilbdkaaGreatDoor.Ev
open Go
/-- Does a call give what is said? -/
noncomputable def chk (P : Program) (G : Nat) (orcs : List Orc) (n : Nat) (o : Orc) : Bool := match (evO P G orcs n).call o.f o.args (mkH o.pre) o.c with
  | some r => hasBody P o.f && (avEq 8 r.v o.v && (Nat.beq r.c o.c' && knows o.post r.H))
  | none => false
theorem chk_ok {P : Program} {G : Nat} (hm : P.follows .mixedOrders = true) {orcs : List Orc} (ho : ∀ o ∈ orcs, OrcS P G o) {n : Nat} {o : Orc} (h : chk P G orcs n o = true) : OrcS P G o := by
  unfold chk at h
  split at h
  · rename_i r hr
    simp only [Bool.and_eq_true, Nat.beq_eq] at h
    exact orc_make (evO_ok hm ho n).2.1 hr h.1 h.2.1 h.2.2.1 h.2.2.2
  · cases h
theorem none_known {P : Program} {G : Nat} : ∀ o ∈ ([] : List Orc), OrcS P G o := fun _ h => by cases h
theorem and_known {P : Program} {G : Nat} {o : Orc} {l : List Orc} (h : OrcS P G o) (hl : ∀ o ∈ l, OrcS P G o) : ∀ q ∈ o :: l, OrcS P G q := fun q hq => by
  rcases List.mem_cons.1 hq with rfl | hq
  · exact h
  · exact hl q hq
end Go.Proofs.YtknmbmdeilbdkaaGreatDoor.Ev
