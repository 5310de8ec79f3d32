/- All operations that touch no memory together. -/
import Derived.Test.YtknmbmdeilbdkaaGreatDoorEvH
namespace Go.Proofs.YtknmbmdeilbdkaaGreatDoor.Ev
open Go
section
variable {P : Program} {m : Ren} {G N : Nat} {T : Tr AV} {a : Act}

noncomputable def aOpO (G : Nat) (T : Tr AV) : Option Operand → Option (Option AV)
  | none => some none
  | some x => match aOp G T x with
    | none => none
    | some v => some (some v)
theorem aOpO_sound {x : Option Operand} {v : Option AV} (hE : ∀ y ∈ x.toArray, ∀ v, aOp G T y = some v → VR m v (a.eval y)) (h : aOpO G T x = some v) : VRO m v (x.map a.eval) := by
  cases x with
  | none => cases h; trivial
  | some x =>
    simp only [aOpO] at h
    split at h
    · cases h
    · rename_i b hb
      cases h
      exact hE x (by simp) _ hb
noncomputable def aparts (G : Nat) (T : Tr AV) (l : List (Nat × Operand)) : Option (List (Nat × AV)) :=
  List.rec (some []) (fun x _ ih => match x with
    | (i, x) => match aOp G T x with
      | none => none
      | some v => match ih with
        | none => none
        | some l => some ((i, v) :: l)) l
theorem aparts_cons (i : Nat) (x : Operand) (xs : List (Nat × Operand)) : aparts G T ((i, x) :: xs) = match aOp G T x with
      | none => none
      | some v => match aparts G T xs with
        | none => none
        | some l => some ((i, v) :: l) := rfl
theorem aparts_sound : ∀ (xs : List (Nat × Operand)) (l : List (Nat × AV)), (∀ x ∈ xs.map (·.2), ∀ v, aOp G T x = some v → VR m v (a.eval x)) → aparts G T xs = some l → PR m l (xs.map fun x => (x.1, a.eval x.2))
  | [], l, _, h => by cases h; trivial
  | (i, x) :: xs, l, hE, h => by
    rw [aparts_cons] at h
    split at h
    · cases h
    · rename_i b hb
      split at h
      · cases h
      · rename_i l' hl
        cases h
        exact ⟨rfl, hE x (by simp) _ hb, aparts_sound xs l' (fun y hy => hE y (List.mem_cons_of_mem _ hy)) hl⟩

def anil (v : AV) : Option AV := match v with
  | .nilp | .nilf | .nili | .any => none
  | v => some v
noncomputable def amin (mx : Bool) (x y : AV) : Option AV := match x, y with
  | .int k p, .int _ q => match mx with
    | true => mkI k (match ilt p q with | true => q | false => p)
    | false => mkI k (match ilt q p with | true => q | false => p)
  | _, _ => none

noncomputable def aminL (mx : Bool) (l : List AV) : AV → Option AV := List.rec (fun v => some v) (fun u _ ih v => match amin mx v u with
    | none => none
    | some r => ih r) l
theorem aminL_cons (mx : Bool) (u : AV) (l : List AV) (v : AV) : aminL mx (u :: l) v = match amin mx v u with
    | none => none
    | some r => aminL mx l r := rfl
/-- A builtin function that touches no memory. -/
noncomputable def abuiltin (P : Program) (G : Nat) (T : Tr AV) (b : Builtin) (args : List Operand) (ts : List TypeId) : Option AV :=
  match b, args, ts with
  | .len, [x], t :: _ => match aOp G T x with
    | none => none
    | some v => alen P t v
  | .cap, [x], t :: _ => match aOp G T x with
    | none => none
    | some v => acap P t v
  | .min, xs, _ => match aOps G T xs with
    | some (v :: l) => aminL false l v
    | _ => none
  | .max, xs, _ => match aOps G T xs with
    | some (v :: l) => aminL true l v
    | _ => none
  | _, _, _ => none

noncomputable def apPick (G : Nat) (T : Tr AV) (c x y : Operand) : Option AV := match aOp G T c with
    | some (.bool true) => aOp G T x
    | some (.bool false) => aOp G T y
    | _ => none
noncomputable def ap1 (G : Nat) (T : Tr AV) (f : AV → Option AV) (x : Operand) : Option AV := match aOp G T x with
    | none => none
    | some v => f v
noncomputable def ap2 (G : Nat) (T : Tr AV) (f : AV → AV → Option AV) (x y : Operand) : Option AV := match aOp G T x with
    | none => none
    | some v => match aOp G T y with
      | none => none
      | some u => f v u
noncomputable def apFunc (G : Nat) (T : Tr AV) (fn : Fn) (xs ys : Array Operand) : Option AV := match fn with
  | .func f => match aOps G T xs.toList, aOps G T ys.toList with
    | some l, some k => some (.fn f l k)
    | _, _ => none
  | _ => none
noncomputable def apSlice (P : Program) (G : Nat) (T : Tr AV) (t : TypeId) (x : Operand) (lo hi mx : Option Operand) : Option AV :=
  match aOp G T x, aOpO G T lo, aOpO G T hi, aOpO G T mx with
    | some v, some l, some h, some q => aslice P t v l h q
    | _, _, _, _ => none
noncomputable def apBuild (P : Program) (G : Nat) (T : Tr AV) (t : TypeId) (ps : Array (Nat × Operand)) : Option AV := match aparts G T ps.toList with
    | none => none
    | some l => abuild P t l
noncomputable def apCall (P : Program) (G : Nat) (T : Tr AV) (c : Call) : Option AV := match c.callee with
  | .builtin b => abuiltin P G T b c.args.toList c.argTypes.toList
  | _ => none
/-- Operations that touch no memory. -/
noncomputable def apure (P : Program) (G : Nat) (T : Tr AV) (o : Op) : Option AV :=
  match o with
  | .move x => aOp G T x
  | .assign x => aOp G T x
  | .pick c x y => apPick G T c x y
  | .nilCheck x => ap1 G T anil x
  | .binOp op t x y _ => ap2 G T (abin P op t x y) x y
  | .unOp op _ x => ap1 G T (aun op) x
  | .convert s d x => ap1 G T (aconv P s d) x
  | .makeInterface t x => ap1 G T (amakeIface P t) x
  | .makeFunc fn xs ys => apFunc G T fn xs ys
  | .slice t x lo hi mx => apSlice P G T t x lo hi mx
  | .fieldAddr s x f => ap1 G T (fun v => afieldAddr P s v f) x
  | .field s x f => ap1 G T (fun v => afield P s v f) x
  | .indexAddr t x i => ap2 G T (aindexAddr P t) x i
  | .index t x i => ap2 G T (aindex P t) x i
  | .extract x i => ap1 G T (fun v => aextract v i) x
  | .typeAssert x _ t ok => ap1 G T (fun v => aassert P v t ok) x
  | .build t ps => apBuild P G T t ps
  | .call c => apCall P G T c
  | _ => none
theorem ap1_inv {f : AV → Option AV} {x : Operand} {v : AV} (h : ap1 G T f x = some v) : ∃ u, aOp G T x = some u ∧ f u = some v := by
  unfold ap1 at h
  split at h
  · cases h
  · rename_i u hu; exact ⟨u, hu, h⟩
theorem ap2_inv {f : AV → AV → Option AV} {x y : Operand} {v : AV} (h : ap2 G T f x y = some v) : ∃ u z, aOp G T x = some u ∧ aOp G T y = some z ∧ f u z = some v := by
  unfold ap2 at h
  split at h
  · cases h
  · rename_i u hu
    split at h
    · cases h
    · rename_i z hz; exact ⟨u, z, hu, hz, h⟩

theorem anil_sound {x v : AV} (h : anil x = some v) {u : Value} (hx : VR m x u) {o : Oper} {y : Operand} (ho : o.op = .nilCheck y) (he : a.eval y = u) : ∃ r, VR m v r ∧ ∀ w, (execOp a.eval o).run P w = .ok (.value r) w := by
  unfold anil at h
  split at h <;> try cases h
  refine ⟨u, hx, fun w => ?_⟩
  simp only [execOp, ho, he]
  cases hx <;> first | rfl | (exfalso; simp_all)
theorem exec_v {s : Sem Value} {r : Value} {w w' : World} (h : s.run P w = .ok r w') : (do pure (Next.value (← s)) : Sem Next).run P w = .ok (.value r) w' := by
  simp [h]
theorem amin_sound {mx : Bool} {x y v : AV} (h : amin mx x y = some v) {p q : Value} (hx : VR m x p) (hy : VR m y q) :
    ∃ r, VR m v r ∧ ∀ w, ((if mx then Builtin.max2 p q else Builtin.min2 p q : Sem Value)).run P w = .ok r w := by
  unfold amin at h
  simp only [mkI_eq] at h
  split at h
  · cases hx; cases hy
    split at h
    · cases h
      refine ⟨_, .int _ _, fun w => ?_⟩
      rw [if_pos rfl, ilt_eq]
      simp only [Builtin.max2, Sem.run_pure]
      congr 2
      split
      · rename_i hlt; simp [show _ < _ from hlt]
      · rename_i hlt; simp [show ¬ _ < _ from hlt]
    · cases h
      refine ⟨_, .int _ _, fun w => ?_⟩
      rw [if_neg (by simp), ilt_eq]
      simp only [Builtin.min2, Sem.run_pure]
      congr 2
      split
      · rename_i hlt; simp [hlt]
      · rename_i hlt; simp [hlt]
  · cases h
theorem aminL_sound {mx : Bool} : ∀ {l : List AV} {x v : AV}, aminL mx l x = some v → ∀ {p : Value} {vs : List Value}, VR m x p → LR m l vs →
    ∃ r, VR m v r ∧ ∀ w, ((vs.foldlM (fun p q => if mx then Builtin.max2 p q else Builtin.min2 p q) p : Sem Value)).run P w = .ok r w
  | [], x, v, h, p, vs, hx, hl => by
    cases h
    rw [hl.nil_inv]
    exact ⟨p, hx, fun w => rfl⟩
  | u :: l, x, v, h, p, vs, hx, hl => by
    rw [aminL_cons] at h
    obtain ⟨q, us, rfl, hq, hl⟩ := hl.cons_inv
    split at h
    · cases h
    · rename_i r hr
      obtain ⟨r1, h1, h2⟩ := amin_sound (P := P) hr hx hq
      obtain ⟨r2, h3, h4⟩ := aminL_sound h h1 hl
      exact ⟨r2, h3, fun w => by rw [List.foldlM_cons, Sem.run_bind, h2 w]; exact h4 w⟩
theorem VR.bool_inv {b : Bool} {v : Value} (h : VR m (.bool b) v) : v = .bool b := by cases h; rfl
theorem apure_sound {o : Oper} {v : AV} (h : apure P G T o.op = some v) (hE : OE G T m a o.op.operands) : ∃ r, VR m v r ∧ ∀ w, (execOp a.eval o).run P w = .ok (.value r) w := by
  generalize ho : o.op = p at h hE
  have E := fun {x : Operand} {v : AV} (h : aOp G T x = some v) (hx : x ∈ p.operands) => hE x hx v h
  unfold apure at h
  split at h
  · exact ⟨_, E h (by simp [Op.operands]), fun w => by simp [execOp, ho]⟩
  · exact ⟨_, E h (by simp [Op.operands]), fun w => by simp [execOp, ho]⟩
  · unfold apPick at h
    split at h
    · rename_i hc
      have hc := (E hc (by simp [Op.operands])).bool_inv
      exact ⟨_, E h (by simp [Op.operands]), fun w => by simp [execOp, ho, hc, asBool]⟩
    · rename_i hc
      have hc := (E hc (by simp [Op.operands])).bool_inv
      exact ⟨_, E h (by simp [Op.operands]), fun w => by simp [execOp, ho, hc, asBool]⟩
    · cases h
  · obtain ⟨u, hx, h⟩ := ap1_inv h
    exact anil_sound h (E hx (by simp [Op.operands])) ho rfl
  · obtain ⟨u, z, hx, hy, h⟩ := ap2_inv h
    obtain ⟨r, h1, h2⟩ := abin_sound (P := P) h (E hx (by simp [Op.operands])) (E hy (by simp [Op.operands]))
    exact ⟨r, h1, fun w => by simp only [execOp, ho]; exact exec_v (h2 w)⟩
  · obtain ⟨u, hx, h⟩ := ap1_inv h
    obtain ⟨r, h1, h2⟩ := aun_sound (P := P) h (E hx (by simp [Op.operands]))
    exact ⟨r, h1, fun w => by simp only [execOp, ho]; exact exec_v (h2 w)⟩
  · obtain ⟨u, hx, h⟩ := ap1_inv h
    obtain ⟨r, h1, h2⟩ := aconv_sound h (E hx (by simp [Op.operands]))
    exact ⟨r, h1, fun w => by simp only [execOp, ho]; exact exec_v (h2 w)⟩
  · obtain ⟨u, hx, h⟩ := ap1_inv h
    obtain ⟨r, h1, h2⟩ := amakeIface_sound h (E hx (by simp [Op.operands]))
    exact ⟨r, h1, fun w => by simp only [execOp, ho]; exact exec_v (h2 w)⟩
  · rename_i fn xs ys
    unfold apFunc at h
    split at h
    · split at h
      · rename_i f _ _ l k hx hy
        cases h
        have h1 := aOps_sound (a := a) (m := m) _ _ (fun x hx => hE x (by simp at hx; simp [Op.operands, hx])) hx
        have h2 := aOps_sound (a := a) (m := m) _ _ (fun x hx => hE x (by simp at hx; simp [Op.operands, hx])) hy
        refine ⟨.func (.func f) (xs.map a.eval) (ys.map a.eval), ?_, fun w => ?_⟩
        · exact .fn (by simpa using h1.1) (fun i b u e1 e2 => h1.2 i b u e1 (by simpa using e2)) (by simpa using h2.1) (fun i b u e1 e2 => h2.2 i b u e1 (by simpa using e2))
        · simp [execOp, ho, Instr.makeFunc]
      · cases h
    · cases h
  · unfold apSlice at h
    split at h
    · rename_i hx hl hh hq
      obtain ⟨r, h1, h2⟩ := aslice_sound h (E hx (by simp [Op.operands])) (aOpO_sound (fun y hy => hE y (by simp at hy; simp [Op.operands, hy])) hl) (aOpO_sound (fun y hy => hE y (by simp at hy; simp [Op.operands, hy])) hh) (aOpO_sound (fun y hy => hE y (by simp at hy; simp [Op.operands, hy])) hq)
      exact ⟨r, h1, fun w => by simp only [execOp, ho]; exact exec_v (h2 w)⟩
    · cases h
  · obtain ⟨u, hx, h⟩ := ap1_inv h
    obtain ⟨r, h1, h2⟩ := afieldAddr_sound h (E hx (by simp [Op.operands]))
    exact ⟨r, h1, fun w => by simp only [execOp, ho]; exact exec_v (h2 w)⟩
  · obtain ⟨u, hx, h⟩ := ap1_inv h
    obtain ⟨r, h1, h2⟩ := afield_sound h (E hx (by simp [Op.operands]))
    exact ⟨r, h1, fun w => by simp only [execOp, ho]; exact exec_v (h2 w)⟩
  · obtain ⟨u, z, hx, hy, h⟩ := ap2_inv h
    obtain ⟨r, h1, h2⟩ := aindexAddr_sound h (E hx (by simp [Op.operands])) (E hy (by simp [Op.operands]))
    exact ⟨r, h1, fun w => by simp only [execOp, ho]; exact exec_v (h2 w)⟩
  · obtain ⟨u, z, hx, hy, h⟩ := ap2_inv h
    obtain ⟨r, h1, h2⟩ := aindex_sound h (E hx (by simp [Op.operands])) (E hy (by simp [Op.operands]))
    exact ⟨r, h1, fun w => by simp only [execOp, ho]; exact exec_v (h2 w)⟩
  · obtain ⟨u, hx, h⟩ := ap1_inv h
    obtain ⟨r, h1, h2⟩ := aextract_sound (P := P) h (E hx (by simp [Op.operands]))
    exact ⟨r, h1, fun w => by simp only [execOp, ho]; exact exec_v (h2 w)⟩
  · obtain ⟨u, hx, h⟩ := ap1_inv h
    obtain ⟨r, h1, h2⟩ := aassert_sound h (E hx (by simp [Op.operands]))
    exact ⟨r, h1, fun w => by simp only [execOp, ho]; exact exec_v (h2 w)⟩
  · unfold apBuild at h
    split at h
    · cases h
    · rename_i ps _ l hp
      have hp := aparts_sound (a := a) (m := m) _ _ (fun x hx => hE x (by simp at hx; simpa [Op.operands] using hx)) hp
      obtain ⟨r, h1, h2⟩ := abuild_sound (qs := ps.map fun (i, x) => (i, a.eval x)) h (by simpa using hp)
      exact ⟨r, h1, fun w => by simp only [execOp, ho]; exact exec_v (h2 w)⟩
  · rename_i cl
    obtain ⟨ce, ⟨xs⟩, ⟨ts0⟩⟩ := cl
    unfold apCall at h
    split at h
    · rename_i b hb
      have hb : ce = .builtin b := hb
      subst hb
      simp only at h
      unfold abuiltin at h
      split at h
      · split at h
        · cases h
        · rename_i hx
          rename_i t ts _ _
          obtain ⟨r, h1, h2⟩ := alen_sound (ts := ⟨t :: ts⟩) (ty := o.type) h (by simp) (E hx (by simp [Op.operands, Call.operands]))
          exact ⟨r, h1, fun w => by simp [execOp, ho, resolve, invoke, builtin, h2 w]⟩
      · split at h
        · cases h
        · rename_i hx
          rename_i t ts _ _
          obtain ⟨r, h1, h2⟩ := acap_sound (ts := ⟨t :: ts⟩) (ty := o.type) h (by simp) (E hx (by simp [Op.operands, Call.operands]))
          exact ⟨r, h1, fun w => by simp [execOp, ho, resolve, invoke, builtin, h2 w]⟩
      · split at h
        · rename_i v l hx
          obtain ⟨p, us, hu, hp, hl⟩ := (aOps_sound (a := a) (m := m) _ _ (fun x hx => hE x (by simp [Op.operands, Call.operands, hx])) hx).cons_inv
          obtain ⟨r, h1, h2⟩ := aminL_sound (P := P) h hp hl
          exact ⟨r, h1, fun w => by have := h2 w; simp only [Bool.false_eq_true, if_false] at this; simp [execOp, ho, resolve, invoke, builtin, Builtin.min_, hu, this]⟩
        · cases h
      · split at h
        · rename_i v l hx
          obtain ⟨p, us, hu, hp, hl⟩ := (aOps_sound (a := a) (m := m) _ _ (fun x hx => hE x (by simp [Op.operands, Call.operands, hx])) hx).cons_inv
          obtain ⟨r, h1, h2⟩ := aminL_sound (P := P) h hp hl
          exact ⟨r, h1, fun w => by have := h2 w; simp only [if_true] at this; simp [execOp, ho, resolve, invoke, builtin, Builtin.max_, hu, this]⟩
        · cases h
      · cases h
    · cases h
  · cases h
end
end Go.Proofs.YtknmbmdeilbdkaaGreatDoor.Ev
