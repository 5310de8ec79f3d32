/- Regions that draw their order: what the reckoner does (no proofs). -/
import Derived.Test.YtknmbmdeilbdkaaGreatDoorEvI
namespace Go.Proofs.YtknmbmdeilbdkaaGreatDoor.Ev
open Go

/-- Is number j in a set? -/
def bit (m j : Nat) : Bool := Nat.beq (Nat.land (Nat.shiftRight m j) 1) 1
/-- Operations that are surely before one, from what its edges name. -/
noncomputable def edgeM (bs : List Nat) : List Edge → Nat → Option Nat
  | [], m => some m
  | e :: es, m => match Region.binds .any e with
    | false => edgeM bs es m
    | true => match nth bs e.on with
      | none => none
      | some b => edgeM bs es (Nat.lor (Nat.lor m (Nat.shiftLeft 1 e.on)) b)
noncomputable def befs : List Oper → List Nat → Option (List Nat)
  | [], bs => some bs
  | o :: l, bs => match edgeM bs o.after.toList 0 with
    | none => none
    | some m => befs l (bs ++ [m])
/-- What an operation has to do with memory: nothing or a new block; it reads; it writes. -/
inductive DK where
  | quiet
  | read
  | loud
def dkind (P : Program) : Op → DK
  | .load _ _ => .read
  | .convert s _ _ => match P.underlying s with
    | some (.slice _) | some (.pointer _) | some .unsafePointer => .read
    | _ => .quiet
  | .store _ _ _ | .mapUpdate _ _ _ _ | .insert _ _ _ _ => .loud
  | .call cl => match cl.callee with
    | .builtin .len | .builtin .cap | .builtin .min | .builtin .max | .builtin .unsafeSliceData => .quiet
    | _ => .loud
  | _ => .quiet
def isLoud (P : Program) (o : Oper) : Bool := match dkind P o.op with
  | .loud => true
  | _ => false
def opTmps (o : Op) : List Nat := o.operands.toList.filterMap fun x => match x with
  | .tmp t => some t
  | _ => none
/-- The slots that an operation looks at. -/
noncomputable def looksT (ops : List Oper) (o : Oper) : List Nat := match o.guard with
  | none => opTmps o.op
  | some (j, _) => match nth ops j with
    | none => opTmps o.op
    | some g => match g.dst with
      | none => opTmps o.op
      | some d => d :: opTmps o.op
def isIn (d : Nat) : List Nat → Bool
  | [] => false
  | t :: l => Nat.beq d t || isIn d l
noncomputable def dstIn (ops : List Oper) (o o' : Oper) : Bool := match o.dst with
  | none => false
  | some d => isIn d (looksT ops o')
/-- Two last stores that are not ordered. -/
def fkPair (fk : Option (Nat × Nat)) (i j : Nat) : Bool := match fk with
  | some (a, b) => Nat.beq i a && Nat.beq j b
  | none => false
/-- Must one be before the other? -/
noncomputable def clash (P : Program) (ops : List Oper) (fk : Option (Nat × Nat)) (i j : Nat) (o o' : Oper) : Bool := dstIn ops o o' || (dstIn ops o' o || (isLoud P o && (isLoud P o' && !(fkPair fk i j))))
def sameDst (o o' : Oper) : Bool := match o.dst, o'.dst with
  | some d, some d' => Nat.beq d d'
  | _, _ => false
noncomputable def restOk (P : Program) (ops : List Oper) (fk : Option (Nat × Nat)) (i : Nat) (o : Oper) : List Oper → List Nat → Nat → Bool
  | o' :: l, b' :: bs, j => (!(clash P ops fk i j o o') || bit b' i) && (!(sameDst o o') && restOk P ops fk i o l bs (j + 1))
  | [], _, _ => true
  | _, [], _ => false
noncomputable def allOk (P : Program) (ops : List Oper) (fk : Option (Nat × Nat)) : List Oper → List Nat → Nat → Bool
  | o :: l, b :: bs, i => restOk P ops fk i o l bs (i + 1) && allOk P ops fk l bs (i + 1)
  | [], _, _ => true
  | _, [], _ => false
/-- How many writing operations are in a set. -/
def loudsIn (P : Program) (b : Nat) : List Oper → Nat → Nat
  | [], _ => 0
  | o :: l, j => match isLoud P o && bit b j with
    | true => loudsIn P b l (j + 1) + 1
    | false => loudsIn P b l (j + 1)
/-- How many writing operations are not surely behind one. -/
def loudsNot (P : Program) (i : Nat) : List Oper → List Nat → Nat
  | o :: l, b :: bs => match isLoud P o && !(bit b i) with
    | true => loudsNot P i l bs + 1
    | false => loudsNot P i l bs
  | _, _ => 0
structure OI where
  b : Nat
  lo : Nat
  hi : Nat
noncomputable def infos (P : Program) (ops : List Oper) (bs : List Nat) : List Nat → Nat → List OI
  | [], _ => []
  | b :: l, i => ⟨b, loudsIn P b ops 0, loudsNot P i ops bs⟩ :: infos P ops bs l (i + 1)
/-- The numbers of the writing operations, the last one first. -/
def loudIx (P : Program) : List Oper → Nat → List Nat → List Nat
  | [], _, acc => acc
  | o :: l, j, acc => match isLoud P o with
    | true => loudIx P l (j + 1) (j :: acc)
    | false => loudIx P l (j + 1) acc
noncomputable def forkOf (P : Program) (ops : List Oper) (bs : List Nat) : Option (Nat × Nat) := match loudIx P ops 0 [] with
  | lb :: la :: _ => match nth bs lb with
    | some b => match bit b la with
      | true => none
      | false => some (la, lb)
    | none => none
  | _ => none
/-- All other writing operations stand before the two, all readings are surely before the second. -/
def forkOk (P : Program) (la lb b : Nat) : List Oper → Nat → Bool
  | [], _ => true
  | o :: l, j => (match dkind P o.op with
    | .quiet => true
    | .read => bit b j
    | .loud => Nat.blt j la || (Nat.beq j la || Nat.beq j lb)) && forkOk P la lb b l (j + 1)
noncomputable def dinfo (P : Program) (ops : List Oper) : Option (List OI × Option (Nat × Nat)) := match befs ops [] with
  | none => none
  | some bs => match forkOf P ops bs with
    | none => match allOk P ops none ops bs 0 with
      | true => some (infos P ops bs bs 0, none)
      | false => none
    | some (la, lb) => match allOk P ops (some (la, lb)) ops bs 0, nth bs lb with
      | true, some b => match forkOk P la lb b ops 0 && (Nat.blt la lb && Nat.blt lb ops.length) with
        | true => some (infos P ops bs bs 0, some (la, lb))
        | false => none
      | _, _ => none

/-- Are two lists alike? -/
def eqL (f : AV → AV → Bool) : List AV → List AV → Bool
  | [], [] => true
  | x :: xs, y :: ys => f x y && eqL f xs ys
  | _, _ => false
/-- Are two values the same? (false says nothing) -/
def avEq : Nat → AV → AV → Bool
  | _, .bool a, .bool b => a == b
  | _, .int k a, .int k' b => decide (k = k') && ieq a b
  | _, .str l c, .str l' c' => Nat.beq l l' && Nat.beq c c'
  | _, .nilp, .nilp => true
  | _, .ptr b o, .ptr b' o' => Nat.beq b b' && Nat.beq o o'
  | _, .nils, .nils => true
  | _, .sl b o l k e, .sl b' o' l' k' e' => Nat.beq b b' && (Nat.beq o o' && (Nat.beq l l' && (Nat.beq k k' && e == e')))
  | _, .nilf, .nilf => true
  | _, .nili, .nili => true
  | _, .mp b, .mp b' => Nat.beq b b'
  | n + 1, .fn f xs ys, .fn f' xs' ys' => Nat.beq f f' && (eqL (avEq n) xs xs' && eqL (avEq n) ys ys')
  | n + 1, .ifc t a, .ifc t' a' => Nat.beq t t' && avEq n a a'
  | _, .emp, .emp => true
  | n + 1, .agg xs, .agg ys => eqL (avEq n) xs ys
  | n + 1, .tup xs, .tup ys => eqL (avEq n) xs ys
  | _, _, _ => false
theorem eqL_sound {f : AV → AV → Bool} (hf : ∀ a b, f a b = true → a = b) : ∀ {xs ys : List AV}, eqL f xs ys = true → xs = ys
  | [], [], _ => rfl
  | x :: xs, y :: ys, h => by
    simp only [eqL, Bool.and_eq_true] at h
    rw [hf _ _ h.1, eqL_sound hf h.2]
  | [], _ :: _, h => by simp [eqL] at h
  | _ :: _, [], h => by simp [eqL] at h
theorem avEq_sound : ∀ (n : Nat) (a b : AV), avEq n a b = true → a = b := by
  intro n
  induction n with
  | zero =>
    intro a b h
    unfold avEq at h
    split at h
    all_goals first
      | exact absurd ‹0 = Nat.succ _› (by simp)
      | rfl
      | (cases h; done)
      | (simp only [Bool.and_eq_true, decide_eq_true_eq, ieq_eq, beq_iff_eq] at h; obtain ⟨rfl, rfl⟩ := h; rfl)
      | (simp only [beq_iff_eq] at h; subst h; rfl)
      | (have h := Nat.eq_of_beq_eq_true h; subst h; rfl)
      | (simp only [Bool.and_eq_true, Nat.beq_eq, beq_iff_eq] at h; obtain ⟨rfl, rfl⟩ := h; rfl)
      | (simp only [Bool.and_eq_true, Nat.beq_eq, beq_iff_eq] at h; obtain ⟨rfl, rfl, rfl, rfl, rfl⟩ := h; rfl)
  | succ n ih =>
    intro a b h
    unfold avEq at h
    split at h
    all_goals (try (have hq := ‹n + 1 = Nat.succ _›; injection hq with hq; subst hq))
    all_goals first
      | rfl
      | (cases h; done)
      | (simp only [Bool.and_eq_true, decide_eq_true_eq, ieq_eq, beq_iff_eq] at h; obtain ⟨rfl, rfl⟩ := h; rfl)
      | (simp only [beq_iff_eq] at h; subst h; rfl)
      | (have h := Nat.eq_of_beq_eq_true h; subst h; rfl)
      | (simp only [Bool.and_eq_true, Nat.beq_eq, beq_iff_eq] at h; obtain ⟨rfl, rfl⟩ := h; rfl)
      | (simp only [Bool.and_eq_true, Nat.beq_eq, beq_iff_eq] at h; obtain ⟨rfl, rfl, rfl, rfl, rfl⟩ := h; rfl)
      | (simp only [Bool.and_eq_true, Nat.beq_eq] at h; rw [h.1, eqL_sound ih h.2.1, eqL_sound ih h.2.2]; done)
      | (simp only [Bool.and_eq_true, Nat.beq_eq] at h; rw [h.1, ih _ _ h.2]; done)
      | (rw [eqL_sound ih h]; done)
end Go.Proofs.YtknmbmdeilbdkaaGreatDoor.Ev
