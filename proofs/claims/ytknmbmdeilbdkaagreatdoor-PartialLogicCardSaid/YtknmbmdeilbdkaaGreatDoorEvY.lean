/- Rounds. -/
import Derived.Test.YtknmbmdeilbdkaaGreatDoorEvX
namespace Go.Proofs.YtknmbmdeilbdkaaGreatDoor.Ev
open Go
section
variable {P : Program} {G N : Nat} {m : Ren} {w : World} {H : Tr AB}

theorem roundEnd_le {q : Nat} {x : AX} {st : St} {r : MR} (h : roundEnd q x st = some r) : r.c = st.c := by
  unfold roundEnd at h
  split at h
  · split at h <;> cases h <;> rfl
  · cases h
theorem roundF_sound {rc : CodeF} (hrc : SoundC P G rc) : SoundR P G (roundF rc) := by
  intro q args H c r h
  unfold roundF at h
  split at h
  · rename_i T N ps assign body hq
    split at h
    · cases h
    · rename_i T' hT'
      split at h
      · rename_i st hst
        split at h
        · rename_i T2 N2 ps2 assign2 body2 hq2
          split at h
          · cases h
          · rename_i x st' hst'
            obtain ⟨k1, k2⟩ := hrc _ _ _ _ _ _ hst
            obtain ⟨k3, k4⟩ := hrc _ _ _ _ _ _ hst'
            have k1 : c ≤ st.c := k1
            have k3 : st.c ≤ st'.c := k3
            have k5 := roundEnd_le h
            refine ⟨by omega, fun F m w us blk δ hF hG hfr hl hR hm => ?_⟩
            obtain ⟨f, tmps, defers, hw, hT⟩ := hR.loop hq hm
            obtain ⟨hlen, hTR⟩ := setParams_sound hT' hT hl
            refine ⟨f, _, assign, body, run_yield hw (by simp [hlen]), roundIn_of_wpIn (hF.fn f) ?_⟩
            have hF' : FOk (F.inRound blk) := ⟨hF.fn, hF.depth⟩
            rw [k5] at hfr
            have e : (ps.toArray.zip us.toArray).foldl (fun t (p, v) => t.setIfInBounds p v) tmps = (ps.zip us).foldl (fun t (p, v) => t.setIfInBounds p v) tmps := by simp
            rw [e]
            refine wpIn_mono (k2 _ m _ w hF' (fun h => by cases h) hG (hfr.sub (Nat.le_refl _) k3) ⟨hTR, hR, trivial⟩) ?_
            rintro e1 a1 w1 ⟨rfl, m1, hS1, hf1⟩
            have hm1 := hf1.le _ _ hm
            obtain ⟨f1, tmps1, defers1, hw1, hT1⟩ := hS1.H.loop hq2 hm1
            obtain ⟨L1, L2⟩ := loop_mod (s' := .busy) (pd' := none) hS1.H hq2 hm1 hw1 hT1 st.c
            have hf2 := hf1.trans L2 k1 (Nat.le_refl _)
            refine ⟨_, run_beginRound hw1 rfl, wpIn_mono (k4 _ m1 a1 _ hF' (fun h => by cases h) (hf2.glob hG) (hf2.fresh hfr k1) ⟨hS1.T, L1, hS1.ms⟩) ?_⟩
            rintro e2 a2 w2 ⟨rfl, m2, hS2, hf3⟩
            have hf4 := hf2.trans hf3 k1 k3
            have hm2 := hf4.le _ _ hm
            unfold roundEnd at h
            split at h
            · rename_i T3 N3 ps3 assign3 body3 hq3
              obtain ⟨f3, tmps3, defers3, hw3, hT3⟩ := hS2.H.loop hq3 hm2
              split at h
              · cases h
                obtain ⟨M1, M2⟩ := loop_mod (s' := .ready) (pd' := none) hS2.H hq3 hm2 hw3 hT3 st'.c
                exact ⟨_, _, run_endRound none hw3, _, m2, rfl, .bool true, M1, hf4.trans M2 (by omega) (Nat.le_refl _)⟩
              · cases h
                obtain ⟨M1, M2⟩ := loop_mod (s' := .done) (pd' := some .ret) hS2.H hq3 hm2 hw3 hT3 st'.c
                exact ⟨_, _, run_endRound (some .ret) hw3, _, m2, rfl, .bool false, M1, hf4.trans M2 (by omega) (Nat.le_refl _)⟩
              · rename_i id
                cases h
                obtain ⟨M1, M2⟩ := loop_mod (s' := .done) (pd' := some (.exit id)) hS2.H hq3 hm2 hw3 hT3 st'.c
                exact ⟨_, _, run_endRound (some (.exit id)) hw3, _, m2, rfl, .bool false, M1, hf4.trans M2 (by omega) (Nat.le_refl _)⟩
              · cases h
            · cases h
        · cases h
      · cases h
  · cases h
end
end Go.Proofs.YtknmbmdeilbdkaaGreatDoor.Ev
