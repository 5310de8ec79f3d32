/- The list of found causes that verdict.Combine builds: its own row, and elements in blocks other than the row's. -/
import Derived.Test.YtemeppfikpafbaaStF
import Derived.Test.YtemeppfikpafbaaVclD
namespace Go.Proofs.Ytemeppfikpafbaa
open Go.RowKit Go.Sort
def FndS (S : Nat → Prop) (w : World) (x : Fnd) : Prop := CauS S w x.c (.slice x.ua x.un x.uc) (.slice x.ha x.hn x.hc)
structure AllF (N : Nat) (w : World) (v : Value) (F : List Fnd) : Prop where
  own : w.ownsRow N 214 3 v F.length (flatC fC F)
  ent : ∀ f ∈ F, FndS (fun b => v.ownBlock ≠ some b) w f
theorem AllF.nil (N : Nat) (w : World) : AllF N w (.slice none 0 0) [] := ⟨World.ownsRow_nil _ _ _ _, fun f h => by simp at h⟩
theorem AllF.more {N : Nat} {w w' : World} {v : Value} {F : List Fnd} (h : AllF N w v F) (hm : More w w') : AllF N w' v F :=
  ⟨owns_keep h.own (fun z hz => hm.block ((owns_shape h.own).choose_spec.choose_spec.2 z hz).2), fun f hf => CauS.mono (h.ent f hf) (fun _ hb _ => hb) (fun b _ hl => hm.block hl)⟩
/-- Another found cause. -/
theorem AllF.push {N : Nat} {w w' : World} {v v' : Value} {F : List Fnd} (h : AllF N w v F) {f : Fnd} (hf : FndS (fun b => v.ownBlock ≠ some b) w f)
    (hown : w'.ownsRow N 214 3 v' (F.length + 1) (flatC fC F ++ fC f)) (hg : w.grownBy w' v.ownBlock) (hv : ∀ z, v'.ownBlock = some z → v.ownBlock = some z ∨ w.heap.size ≤ z) : AllF N w' v' (F ++ [f]) := by
  have key : ∀ x, FndS (fun b => v.ownBlock ≠ some b) w x → FndS (fun b => v'.ownBlock ≠ some b) w' x := fun x hx => CauS.mono hx (fun b hb hl e => by
    rcases hv b e with h1 | h1
    · exact hb h1
    · omega) (fun b hb hl => hg.block b hl (fun e => hb e.symm))
  refine ⟨by rw [List.length_append, List.length_singleton, flatC_push]; exact hown, fun x hx => ?_⟩
  rcases List.mem_append.1 hx with h1 | h1
  · exact key x (h.ent x h1)
  · rw [List.mem_singleton] at h1; subst h1; exact key x hf
/-- Elements stay, whatever is written into the row. -/
theorem AllF.keep {N : Nat} {w : World} {B : Nat} {n cap : Nat} {F : List Fnd} (h : AllF N w (.slice (some ⟨B, 0, none⟩) n cap) F) : ∀ f ∈ F, ∀ W, w.grownBy W (some B) → FndAt W f := fun f hf W hW =>
  (CauS.mono (S' := fun _ => True) (h.ent f hf) (fun _ _ _ => trivial) (fun b hb hl => hW.block b hl (fun e => hb (by rw [Option.some.inj e]; rfl)))).at
end Go.Proofs.Ytemeppfikpafbaa
