/- Operations that touch no memory, one by one. -/
import Derived.Test.YtknmbmdeilbdkaaGreatDoorEvC
namespace Go.Proofs.YtknmbmdeilbdkaaGreatDoor.Ev
open Go
section
variable {P : Program} {m : Ren}

def kidx : IntKind → Nat
  | .i8 => 0 | .i16 => 1 | .i32 => 2 | .i64 => 3 | .u8 => 4 | .u16 => 5 | .u32 => 6 | .u64 => 7
theorem kidx_inj {k k' : IntKind} (h : Nat.beq (kidx k) (kidx k') = true) : k = k' := by
  have := Nat.eq_of_beq_eq_true h
  cases k <;> cases k' <;> first | rfl | simp [kidx] at this
theorem add_plain (b o n : Nat) : (⟨b, o, none⟩ : Addr).add n = ⟨b, o + n, none⟩ := by
  unfold Addr.add
  split
  · rename_i h; rw [h]; rfl
  · rfl
theorem bool_dec (a b : Bool) : (a == b) = decide (a = b) := by cases a <;> cases b <;> rfl

/-- Unary operators. -/
noncomputable def aun (op : UnOp) (x : AV) : Option AV :=
  match op, x with
  | .neg, .int k n => mkI k (awrap k (0 - n))
  | .not, .bool b => mkB (!b)
  | .xor, .int k (.ofNat n) => match sgn k with
    | true => none
    | false => match abits .xor k (lim k - 1) n with
      | none => none
      | some r => mkI k r
  | _, _ => none
theorem aun_sound {op : UnOp} {x v : AV} (h : aun op x = some v) {u : Value} (hx : VR m x u) : ∃ r, VR m v r ∧ ∀ w, (Op.unary op u).run P w = .ok r w := by
  unfold aun at h
  split at h
  · rw [mkI_eq] at h
    cases h
    cases hx
    exact ⟨_, .int _ _, fun w => by rw [awrap_eq]; simp [Op.unary, Op.intArith]⟩
  · rw [mkB_eq] at h
    cases h
    cases hx
    exact ⟨_, .bool _, fun w => by simp [Op.unary]⟩
  · rename_i k n
    split at h
    · cases h
    · rename_i hs
      split at h
      · cases h
      · rename_i r hr
        rw [mkI_eq] at h
        cases h
        cases hx
        refine ⟨_, .int _ _, fun w => ?_⟩
        have e : (if k.signed then (-1 : Int) else k.max) = Int.ofNat (lim k - 1) := by cases k <;> first | exact absurd hs (by decide) | (simp [IntKind.signed, IntKind.max, IntKind.bits, lim])
        simp only [Op.unary, e]
        exact abits_eq hr P w
  · cases h

/-- Shifts of numbers that are not negative. -/
noncomputable def ashift (op : BinOp) (k : IntKind) (a b : Nat) : Option AV :=
  match op with
  | .shl => mkI k (awrap k (.ofNat (a * 2 ^ (min b k.bits))))
  | .shr => mkI k (.ofNat (a / 2 ^ (min b k.bits)))
  | _ => none
theorem ashift_sound {op : BinOp} {k k' : IntKind} {a b : Nat} {v : AV} (h : ashift op k a b = some v) : ∃ r, VR m v r ∧ ∀ w, (Op.shift op k (.ofNat a) k' (.ofNat b)).run P w = .ok r w := by
  unfold ashift at h
  simp only [mkI_eq] at h
  split at h
  · cases h
    refine ⟨_, .int _ _, fun w => ?_⟩
    rw [awrap_eq]
    simp [Op.shift, show ¬ ((b : Int) < 0) by omega]
  · cases h
    refine ⟨_, .int _ _, fun w => ?_⟩
    have e : (2 : Int) ^ (min b k.bits) = ((2 ^ (min b k.bits) : Nat) : Int) := by simp
    have e2 : ((a : Int)).fdiv ((2 ^ (min b k.bits) : Nat) : Int) = ((a / 2 ^ (min b k.bits) : Nat) : Int) := by
      rw [Int.fdiv_eq_ediv_of_nonneg _ (Int.natCast_nonneg _)]; rfl
    simp only [Op.shift, Int.ofNat_eq_natCast, show ¬ ((b : Int) < 0) by omega, if_false, Int.toNat_natCast, e, e2]
    rfl
  · cases h

def isC : Operand → Bool
  | .const _ => true
  | _ => false
/-- Equality but of numbers and strings. -/
def aeq (P : Program) (t : TypeId) (xo yo : Operand) (a b : AV) : Option Bool :=
  match P.underlying t, a, b with
  | some .bool, .bool a, .bool b => some (a == b)
  | some (.pointer _), .nilp, .nilp => some true
  | some (.pointer _), .nilp, .ptr _ _ => some false
  | some (.pointer _), .ptr _ _, .nilp => some false
  | some (.pointer e), .ptr b o, .ptr b' o' => match Nat.beq b b', P.info? e with
    | true, some i => match Nat.blt 0 i.size with
      | true => some (Nat.beq o o')
      | false => none
    | _, _ => none
  | some (.slice _), .nils, .nils => some true
  | some (.slice _), .nils, .sl _ _ _ _ _ => some false
  | some (.slice _), .sl _ _ _ _ _, .nils => some false
  | some (.func _ _ _), .nilf, .nilf => some true
  | some (.func _ _ _), .nilf, .fn _ _ _ => some false
  | some (.func _ _ _), .fn _ _ _, .nilf => some false
  | some (.interface _), .nili, .nili => match isC xo || isC yo with
    | true => some true
    | false => none
  | some (.interface _), .nili, .ifc _ _ => some false
  | some (.interface _), .ifc _ _, .nili => some false
  | _, _, _ => none
theorem eq_runs {t : TypeId} {xo yo : Operand} {x y : Value} {r : Bool} {w : World} (e1 : binOp .eql t x y = (do pure (.bool (← Op.equal t x y)))) (e2 : binOp .neq t x y = (do pure (.bool (!(← Op.equal t x y)))))
    (hg : ∀ op, (eqGuard op t xo yo x y).run P w = .ok () w) (h : ∀ d, (Op.equalIn (d + 1) t x y).run P w = .ok r w) :
    (do eqGuard .eql t xo yo x y; binOp .eql t x y).run P w = .ok (.bool r) w ∧ (do eqGuard .neq t xo yo x y; binOp .neq t x y).run P w = .ok (.bool (!r)) w := by
  have h' : (Op.equal t x y).run P w = .ok r w := h 9999
  constructor
  · simp only [Sem.run_bind, hg, Result.andThen_ok, e1, h', Sem.run_pure]
  · simp only [Sem.run_bind, hg, Result.andThen_ok, e2, h', Sem.run_pure]
theorem aeq_sound {t : TypeId} {xo yo : Operand} {a b : AV} {r : Bool} (h : aeq P t xo yo a b = some r) {x y : Value} (hx : VR m a x) (hy : VR m b y) (w : World) :
    (do eqGuard .eql t xo yo x y; binOp .eql t x y).run P w = .ok (.bool r) w ∧ (do eqGuard .neq t xo yo x y; binOp .neq t x y).run P w = .ok (.bool (!r)) w := by
  unfold aeq at h
  split at h <;> try cases h
  all_goals first
    | (rename_i hu; cases hx; cases hy; refine eq_runs rfl rfl (fun op => by cases op <;> rfl) (fun d => ?_); simp only [Op.equalIn, Sem.run_bind, run_underlying hu, Result.andThen_ok, Sem.run_pure]; done)
    | (rename_i hu; cases hx; cases hy; refine eq_runs rfl rfl (fun op => by cases op <;> rfl) (fun d => ?_); simp only [Op.equalIn, Sem.run_bind, run_underlying hu, Result.andThen_ok, Sem.run_pure]; rfl)
    | (rename_i e b o b' o' hu; split at h
       · rename_i i hb hi
         split at h
         · rename_i hs
           have hb := Nat.eq_of_beq_eq_true hb
           subst hb
           rw [blt_dec, decide_eq_true_eq] at hs
           cases h
           cases hx with
           | @ptr _ _ blk δ h1 =>
           cases hy with
           | @ptr _ _ blk' δ' h2 =>
           rw [h1] at h2; cases h2
           refine eq_runs rfl rfl (fun op => by cases op <;> rfl) (fun d => ?_)
           have h0 : ¬ i.size = 0 := by omega
           have e1 : ((⟨blk, o, none⟩ : Addr) == ⟨blk, o', none⟩) = Nat.beq o o' := by
             cases h9 : Nat.beq o o' with
             | true => have := Nat.eq_of_beq_eq_true h9; subst this; simp
             | false => have := Nat.ne_of_beq_eq_false h9; simp [this]
           simp only [Op.equalIn, Sem.run_bind, run_underlying hu, Result.andThen_ok, sizeOf, typeInfo, run_program, hi, Sem.run_pure]
           simp [h0, sameAddr, e1]
         · cases h
       · cases h)
    | (rename_i hu; split at h
       · rename_i hc
         cases h; cases hx; cases hy
         refine eq_runs rfl rfl (fun op => ?_) (fun d => ?_)
         · cases xo <;> cases yo <;> first | (simp [isC] at hc; done) | (cases op <;> rfl)
         · simp only [Op.equalIn, Sem.run_bind, run_underlying hu, Result.andThen_ok, Sem.run_pure]
       · cases h)
end
end Go.Proofs.YtknmbmdeilbdkaaGreatDoor.Ev
