/- Operations of a region one by one, regions in the order of the text, and code but for loops over functions: the reckoner's are the machine's. -/
import Derived.Test.YtknmbmdeilbdkaaGreatDoorEvL
import Derived.LoopNIn
import Derived.RangeFuncCalls
namespace Go.Proofs.YtknmbmdeilbdkaaGreatDoor.Ev
open Go

/-- Fences that let all in. -/
structure FOk (F : Fence) : Prop where
  fn : ∀ f, F.fn f
  depth : F.depth = none
def AX.out : AX → Exit
  | .norm => .normal
  | .exit i => .exit i
  | .goto l => .goto l
  | .ret => .ret
def MkR (m : Ren) : List Nat → List Deferred → Prop
  | [], [] => True
  | q :: qs, d :: ds => (∃ r δ, m q = some (r, δ) ∧ d = { target := .collected r, args := #[] }) ∧ MkR m qs ds
  | _, _ => False
theorem MkR.mono {m m' : Ren} (hm : Ren.le m m') : ∀ {qs : List Nat} {ds : List Deferred}, MkR m qs ds → MkR m' qs ds
  | [], [], _ => trivial
  | q :: qs, d :: ds, h => by
    obtain ⟨⟨r, δ, h1, h2⟩, h3⟩ := h
    exact ⟨⟨r, δ, hm _ _ h1, h2⟩, h3.mono hm⟩
  | [], _ :: _, h => h.elim
  | _ :: _, [], h => h.elim
/-- A frame and memory as they are known. -/
structure SR (N : Nat) (m : Ren) (st : St) (a : Act) (w : World) : Prop where
  T : TR m st.T N a.tmps
  H : Rel m st.H.get w
  ms : MkR m st.ms a.defers
def CQ (N : Nat) (m : Ren) (st : St) (w : World) (x : AX) (st' : St) : Exit → Act → World → Prop := fun e a' w' =>
  e = x.out ∧ ∃ m', SR N m' st' a' w' ∧ Fr m st.H.get w m' st'.H.get w' st.c st'.c
def SoundC (P : Program) (G : Nat) (rc : CodeF) : Prop := ∀ rd code N st x st', rc rd code N st = some (x, st') → st.c ≤ st'.c ∧
  ∀ (F : Fence) (m : Ren) (a : Act) (w : World), FOk F → (rd = false → F.round = none) → Glob m G → Fresh m st.c st'.c → SR N m st a w → code.wpIn F 0 P (CQ N m st w x st') a w
def FQ (m : Ren) (H : Tr AB) (w : World) (c : Nat) (r : MR) : Ending → World → Prop := fun e w' =>
  ∃ v m', e = .returned v ∧ VR m' r.v v ∧ Rel m' r.H.get w' ∧ Fr m H.get w m' r.H.get w' c r.c
def SoundF (P : Program) (G : Nat) (rf : CallF) : Prop := ∀ f args H c r, rf f args H c = some r → c ≤ r.c ∧
  (((∃ fn, P.funcs[f]? = some fn ∧ fn.body.isSome = true ∧ (fn.name == noGo) = false) ∧
    ∀ (F : Fence) (m : Ren) (w : World) (us : List Value), FOk F → Glob m G → Fresh m c r.c → LR m args us → Rel m H.get w → CallsIn F 0 P f us.toArray w (FQ m H w c r)) ∨
  ∀ (m : Ren) (w : World) (us : List Value), LR m args us → Rel m H.get w → ∃ v w' m', (callFunc f us.toArray).run P w = .ok (.value v) w' ∧ VR m' r.v v ∧ Rel m' r.H.get w' ∧ Fr m H.get w m' r.H.get w' c r.c)
def SoundR (P : Program) (G : Nat) (rr : CallF) : Prop := ∀ q args H c r, rr q args H c = some r → c ≤ r.c ∧
  ∀ (F : Fence) (m : Ren) (w : World) (us : List Value) (blk δ : Nat), FOk F → Glob m G → Fresh m c r.c → LR m args us → Rel m H.get w → m q = some (blk, δ) →
    ∃ f tmps assign body, (Instr.yield blk us.toArray).run P w = .ok (.round blk f tmps assign body) w ∧ RoundIn F 0 P blk f tmps assign body w (FQ m H w c r)

section
variable {P : Program} {G N : Nat} {F : Fence} {m : Ren} {a : Act} {w : World}

theorem MkR.put {qs : List Nat} {d : Option Tmp} {v : Value} (h : MkR m qs a.defers) : MkR m qs (a.put d v).defers := by cases d <;> exact h
theorem aput_sound {T T' : Tr AV} {d : Option Nat} {v : AV} {u : Value} (h : aput N T d v = some T') (hT : TR m T N a.tmps) (hv : VR m v u) : TR m T' N (a.put d u).tmps := by
  unfold aput at h
  split at h
  · cases h; exact hT
  · rename_i d
    split at h
    · rename_i hd
      have hd : d < N := by simpa [Nat.blt_eq] using hd
      cases h
      exact hT.set hd hv
    · cases h
theorem awanted_sound {ops : List Oper} {T : Tr AV} {o : Oper} {b : Bool} (h : awanted ops T o = some b) (hT : TR m T N a.tmps) : Region.wanted o (yielded ops.toArray a.tmps) = b := by
  unfold awanted at h
  unfold Region.wanted
  split at h
  · rename_i hg; cases h; rw [hg]
  · rename_i j want hg
    rw [hg]
    split at h
    · cases h
    · rename_i g hj
      rw [nth_eq] at hj
      split at h
      · cases h
      · rename_i d hd
        have hy : yielded ops.toArray a.tmps j = match a.tmps[d]? with | some (.bool b) => some b | _ => none := by
          simp only [yielded, List.getElem?_toArray, hj, Option.bind_some, hd]
          rfl
        simp only [hy]
        split at h
        · rename_i q ht
          cases h
          obtain ⟨u, h1, h2⟩ := hT.2 d _ ht
          rw [h1, h2.bool_inv]
          simp only [Option.some_beq_some]
        · cases h
        · rename_i v hb ha ht
          cases h
          obtain ⟨u, h1, h2⟩ := hT.2 d _ ht
          rw [h1]
          cases h2 <;> first | rfl | exact (hb _ rfl).elim | exact (ha rfl).elim
        · cases h
theorem undef_VR : VR m (.tup []) undef := .tup' (vs := []) LR.nil

/-- One operation, as regions ask for it. -/
def OpS (P : Program) (G N : Nat) (ops : List Oper) (o : Oper) (st st' : St) : Prop := st.c ≤ st'.c ∧
  ∀ (F : Fence) (m : Ren) (a : Act) (w : World) (K : Act → World → Prop) (Q : Exit → Act → World → Prop), FOk F → Glob m G → Fresh m st.c st'.c → SR N m st a w →
    (∀ m' a' w', SR N m' st' a' w' → Fr m st.H.get w m' st'.H.get w' st.c st'.c → K a' w') →
    if Region.wanted o (yielded ops.toArray a.tmps) then o.wpIn F 0 P a w K Q else (∀ f, o.about P w a.eval = some f → F.fn f) ∧ K (a.put o.dst undef) w
theorem semAt_plain (ro : Option Nat) (ρ : Operand → Value) (o : Oper) (h : ∀ c, o.op ≠ .defer c) : Oper.semAt ro ρ o = execOp ρ o := Oper.semAt_eq ro ρ o h
theorem wpIn_value {o : Oper} {K : Act → World → Prop} {Q : Exit → Act → World → Prop} (hF : FOk F) (hd : ∀ c, o.op ≠ .defer c) {r : Value} {w' : World} (h : (execOp a.eval o).run P w = .ok (.value r) w') (hk : K (a.put o.dst r) w') : o.wpIn F 0 P a w K Q := by
  refine ⟨fun f _ => hF.fn f, ?_⟩
  rw [semAt_plain _ _ _ hd, h]
  exact hk
theorem wpIn_skip' {o : Oper} {K : Act → World → Prop} {Q : Exit → Act → World → Prop} (hF : FOk F) (hd : ∀ c, o.op ≠ .defer c) {w' : World} (h : (execOp a.eval o).run P w = .ok .skip w') (hk : K (a.put o.dst undef) w') : o.wpIn F 0 P a w K Q := by
  refine ⟨fun f _ => hF.fn f, ?_⟩
  rw [semAt_plain _ _ _ hd, h]
  exact hk
theorem wpIn_enter {o : Oper} {K : Act → World → Prop} {Q : Exit → Act → World → Prop} (hF : FOk F) (hd : ∀ c, o.op ≠ .defer c) {f : FuncId} {args : Array Value} {w' : World} (h : (execOp a.eval o).run P w = .ok (.enter f args) w')
    (hk : CallsIn F 0 P f args w' fun e w'' => ∃ v, e = .returned v ∧ K (a.put o.dst v) w'') : o.wpIn F 0 P a w K Q := by
  refine ⟨fun f _ => hF.fn f, ?_⟩
  rw [semAt_plain _ _ _ hd, h]
  refine ⟨fun hs => by rw [hF.depth] at hs; simp at hs, hk.mono fun e w'' he => ?_⟩
  obtain ⟨v, rfl, hv⟩ := he
  exact hv
theorem wpIn_round {o : Oper} {K : Act → World → Prop} {Q : Exit → Act → World → Prop} (hF : FOk F) (hd : ∀ c, o.op ≠ .defer c) {l : Nat} {f : FuncId} {tmps : Array Value} {assign body : Code} {w' : World} (h : (execOp a.eval o).run P w = .ok (.round l f tmps assign body) w')
    (hk : RoundIn F 0 P l f tmps assign body w' fun e w'' => ∃ v, e = .returned v ∧ K (a.put o.dst v) w'') : o.wpIn F 0 P a w K Q := by
  refine ⟨fun f _ => hF.fn f, ?_⟩
  rw [semAt_plain _ _ _ hd, h]
  refine ⟨fun hs => by rw [hF.depth] at hs; simp at hs, hk.mono fun e w'' he => ?_⟩
  obtain ⟨v, rfl, hv⟩ := he
  exact hv
end
end Go.Proofs.YtknmbmdeilbdkaaGreatDoor.Ev
