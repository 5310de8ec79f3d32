/- Strings, conversions, functions, interfaces, len; and all operations that touch no memory together. -/
import Derived.Test.YtknmbmdeilbdkaaGreatDoorEvG
import Derived.Laws.Concat
namespace Go.Proofs.YtknmbmdeilbdkaaGreatDoor.Ev
open Go
section
variable {P : Program} {m : Ren}

theorem dec_toList (l c : Nat) : (dec l c).toList = decL l c := ByteArray.toList_mk _
def astrEq (la ca lb cb : Nat) : Bool := Nat.beq la lb && Nat.beq ca cb
theorem astrEq_eq {la ca lb cb : Nat} (ha : ca < 256 ^ la) (hb : cb < 256 ^ lb) : (decL la ca == decL lb cb) = astrEq la ca lb cb := by
  unfold astrEq
  rw [beq_dec, beq_dec]
  by_cases h : la = lb
  · subst h
    by_cases h2 : ca = cb
    · subst h2; simp
    · have : decL la ca ≠ decL la cb := fun e => h2 (decL_inj ha hb e)
      simp [h2, this]
  · have : decL la ca ≠ decL lb cb := fun e => h (by have := congrArg List.length e; simpa [decL_length] using this)
    simp [h, this]
/-- Two strings. -/
noncomputable def abinS (op : BinOp) (la ca lb cb : Nat) : Option AV :=
  match op with
  | .eql => mkB (astrEq la ca lb cb)
  | .neq => mkB (!(astrEq la ca lb cb))
  | .add => match Nat.ble (la + lb) 9223372036854775807 with
    | true => mkStr (la + lb) (ca + 256 ^ la * cb)
    | false => none
  | _ => none
theorem abinS_sound {op : BinOp} {la ca lb cb : Nat} {v : AV} (h : abinS op la ca lb cb = some v) (ha : ca < 256 ^ la) (hb : cb < 256 ^ lb) (t : TypeId) : ∃ r, VR m v r ∧ ∀ w, (binOp op t (.string (dec la ca)) (.string (dec lb cb))).run P w = .ok r w := by
  unfold abinS at h
  simp only [mkB_eq, mkStr_eq] at h
  split at h
  · cases h
    exact ⟨_, .bool _, fun w => by rw [binOp_string_eql, dec_toList, dec_toList, astrEq_eq ha hb]; rfl⟩
  · cases h
    exact ⟨_, .bool _, fun w => by rw [binOp_string_neq, dec_toList, dec_toList, astrEq_eq ha hb]; rfl⟩
  · split at h
    · rename_i hle
      have hle := Nat.le_of_ble_eq_true hle
      cases h
      refine ⟨.string (dec (la + lb) (ca + 256 ^ la * cb)), .str ?_, fun w => ?_⟩
      · rw [Nat.pow_add]
        have h1 : 256 ^ la * cb + 256 ^ la ≤ 256 ^ la * 256 ^ lb := by rw [← Nat.mul_succ]; exact Nat.mul_le_mul_left _ hb
        omega
      · have e : dec la ca ++ dec lb cb = dec (la + lb) (ca + 256 ^ la * cb) := by
          apply ByteArray.ext
          show (dec la ca ++ dec lb cb).data = (decL (la + lb) (ca + 256 ^ la * cb)).toArray
          rw [← decL_append la ca lb cb ha, ByteArray.data_append]
          simp [dec]
        have hr := run_string_add_sum (P := P) w (dec la ca) (dec lb cb) (by rw [dec_size, dec_size]; exact hle)
        rw [e] at hr
        exact hr
    · cases h
  · cases h

theorem eqGuard_int (op : BinOp) (t : TypeId) (x y : Operand) (k k' : IntKind) (a b : Int) (w : World) : (eqGuard op t x y (.int k a) (.int k' b)).run P w = .ok () w := by cases op <;> rfl
theorem eqGuard_str (op : BinOp) (t : TypeId) (x y : Operand) (a b : ByteArray) (w : World) : (eqGuard op t x y (.string a) (.string b)).run P w = .ok () w := by cases op <;> rfl
noncomputable def abinN (op : BinOp) (k : IntKind) (a : Int) (k' : IntKind) (b : Int) : Option AV :=
  match op, a, b with
  | .shl, .ofNat a, .ofNat b => ashift .shl k a b
  | .shr, .ofNat a, .ofNat b => ashift .shr k a b
  | .shl, _, _ => none
  | .shr, _, _ => none
  | op, a, b => match Nat.beq (kidx k) (kidx k') with
    | true => abinI op k a b
    | false => none
theorem abinI_atom {op : BinOp} {k : IntKind} {p q : Int} {v : AV} (h : abinI op k p q = some v) : (∃ k n, v = .int k n) ∨ (∃ b, v = .bool b) := by
  have hbit : ∀ {op}, abit op k p q = some v → (∃ k n, v = .int k n) ∨ (∃ b, v = .bool b) := fun {op} h => by
    unfold abit at h
    split at h
    · split at h
      · cases h
      · rw [mkI_eq] at h; cases h; exact Or.inl ⟨_, _, rfl⟩
    · cases h
  cases op <;> simp only [abinI, mkI_eq, mkB_eq] at h <;> first
    | (cases h; exact Or.inl ⟨_, _, rfl⟩)
    | (cases h; exact Or.inr ⟨_, rfl⟩)
    | exact hbit h
    | (unfold aquo at h; split at h
       · cases h
       · rw [mkI_eq] at h; cases h; exact Or.inl ⟨_, _, rfl⟩)
    | (unfold arem at h; split at h
       · cases h
       · rw [mkI_eq] at h; cases h; exact Or.inl ⟨_, _, rfl⟩)
    | (cases h; done)
theorem abinN_sound {op : BinOp} {t : TypeId} {k k' : IntKind} {p q : Int} {v : AV} (h : abinN op k p k' q = some v) :
    ∃ r, VR m v r ∧ ∀ w, (binOp op t (.int k p) (.int k' q)).run P w = .ok r w := by
  unfold abinN at h
  split at h
  · obtain ⟨r, h1, h2⟩ := ashift_sound (m := m) (P := P) (k' := k') h
    exact ⟨r, h1, fun w => h2 w⟩
  · obtain ⟨r, h1, h2⟩ := ashift_sound (m := m) (P := P) (k' := k') h
    exact ⟨r, h1, fun w => h2 w⟩
  · cases h
  · cases h
  · split at h
    · rename_i hk
      have hk := kidx_inj hk
      subst hk
      have hall : ∀ w, ∃ u, (binOp op t (.int k p) (.int k q)).run P w = .ok u w ∧ VR m v u := fun w => abinI_sound h P t m w
      obtain ⟨u, _, hv⟩ := hall default
      refine ⟨u, hv, fun w => ?_⟩
      obtain ⟨u', h1, hv'⟩ := hall w
      have huu : u' = u := by
        rcases abinI_atom h with ⟨k, n, rfl⟩ | ⟨b, rfl⟩ <;> cases hv <;> cases hv' <;> rfl
      rw [huu] at h1
      exact h1
    · cases h
noncomputable def abinB (P : Program) (op : BinOp) (t : TypeId) (xo yo : Operand) (x y : AV) : Option AV :=
  match op with
  | .eql => match aeq P t xo yo x y with
    | none => none
    | some b => some (.bool b)
  | .neq => match aeq P t xo yo x y with
    | none => none
    | some b => some (.bool (!b))
  | _ => none
theorem abinB_sound {op : BinOp} {t : TypeId} {xo yo : Operand} {x y v : AV} (h : abinB P op t xo yo x y = some v) {a b : Value} (hx : VR m x a) (hy : VR m y b) :
    ∃ r, VR m v r ∧ ∀ w, (do eqGuard op t xo yo a b; binOp op t a b).run P w = .ok r w := by
  unfold abinB at h
  split at h
  · split at h
    · cases h
    · rename_i e he
      cases h
      exact ⟨_, .bool _, fun w => (aeq_sound he hx hy w).1⟩
  · split at h
    · cases h
    · rename_i e he
      cases h
      exact ⟨_, .bool _, fun w => (aeq_sound he hx hy w).2⟩
  · cases h
/-- Binary operators. -/
noncomputable def abin (P : Program) (op : BinOp) (t : TypeId) (xo yo : Operand) (x y : AV) : Option AV :=
  match x, y with
  | .int k a, .int k' b => abinN op k a k' b
  | .str la ca, .str lb cb => abinS op la ca lb cb
  | x, y => abinB P op t xo yo x y
theorem abin_sound {op : BinOp} {t : TypeId} {xo yo : Operand} {x y v : AV} (h : abin P op t xo yo x y = some v) {a b : Value} (hx : VR m x a) (hy : VR m y b) :
    ∃ r, VR m v r ∧ ∀ w, (do eqGuard op t xo yo a b; binOp op t a b).run P w = .ok r w := by
  unfold abin at h
  split at h
  · cases hx
    cases hy
    obtain ⟨r, h1, h2⟩ := abinN_sound (m := m) (P := P) (t := t) h
    refine ⟨r, h1, fun w => ?_⟩
    simp only [Sem.run_bind, eqGuard_int, Result.andThen_ok]
    exact h2 w
  · cases hx with
    | str ha => cases hy with
      | str hb =>
        obtain ⟨r, h1, h2⟩ := abinS_sound (m := m) (P := P) h ha hb t
        refine ⟨r, h1, fun w => ?_⟩
        simp only [Sem.run_bind, eqGuard_str, Result.andThen_ok]
        exact h2 w
  · exact abinB_sound h hx hy

/-- Conversions of numbers, and of strings to strings. -/
noncomputable def aconv (P : Program) (src dst : TypeId) (x : AV) : Option AV :=
  match P.underlying src, P.underlying dst, x with
  | some _, some (.int k), .int _ n => mkI k (awrap k n)
  | some _, some .string, .str l c => some (.str l c)
  | _, _, _ => none
theorem aconv_sound {src dst : TypeId} {x v : AV} (h : aconv P src dst x = some v) {u : Value} (hx : VR m x u) : ∃ r, VR m v r ∧ ∀ w, (convert src dst u).run P w = .ok r w := by
  unfold aconv at h
  split at h
  · rename_i d hs hd
    rw [mkI_eq] at h
    cases h; cases hx
    refine ⟨_, .int _ _, fun w => ?_⟩
    rw [awrap_eq]
    simp [convert, run_underlying hs, run_underlying hd, Conv.intToInt]
  · rename_i d hs hd
    cases h
    cases hx with
    | str hc =>
      refine ⟨_, .str hc, fun w => ?_⟩
      simp [convert, run_underlying hs, run_underlying hd]
  · cases h

def amakeIface (P : Program) (t : TypeId) (x : AV) : Option AV :=
  match P.underlying t with
  | none | some (.interface _) => none
  | some _ => some (.ifc t x)
theorem amakeIface_sound {t : TypeId} {x v : AV} (h : amakeIface P t x = some v) {u : Value} (hx : VR m x u) : ∃ r, VR m v r ∧ ∀ w, (Instr.makeInterface t u).run P w = .ok r w := by
  unfold amakeIface at h
  split at h
  · cases h
  · cases h
  · rename_i d hn hu
    cases h
    refine ⟨_, .ifc hx, fun w => ?_⟩
    simp only [Instr.makeInterface, Sem.run_bind, run_underlying hu, Result.andThen_ok]
    cases d <;> first | rfl | exact (hn _ rfl).elim

/-- x.(T), T no interface. -/
def aassert (P : Program) (x : AV) (t : TypeId) (ok : Bool) : Option AV :=
  match x, P.underlying t with
  | _, none | _, some (.interface _) => none
  | .ifc u a, some _ => match Nat.beq u t with
    | true => some (match ok with | true => .tup [a, .bool true] | false => a)
    | false => none
  | _, _ => none
theorem aassert_sound {x v : AV} {s t : TypeId} {ok : Bool} (h : aassert P x t ok = some v) {u : Value} (hx : VR m x u) : ∃ r, VR m v r ∧ ∀ w, (Instr.typeAssert u s t ok).run P w = .ok r w := by
  unfold aassert at h
  split at h
  · cases h
  · cases h
  · rename_i q a d hn hu
    split at h
    · rename_i hq
      have hq := Nat.eq_of_beq_eq_true hq
      subst hq
      cases h
      cases hx with
      | @ifc _ _ z hz =>
        cases ok
        · refine ⟨_, hz, fun w => ?_⟩
          simp only [Instr.typeAssert, Sem.run_bind, run_underlying hu, Result.andThen_ok]
          cases d <;> first | exact (hn _ rfl).elim | simp
        · refine ⟨.tuple #[z, .bool true], .tup' (vs := [z, .bool true]) (LR.cons hz (LR.cons (.bool _) LR.nil)), fun w => ?_⟩
          simp only [Instr.typeAssert, Sem.run_bind, run_underlying hu, Result.andThen_ok]
          cases d <;> first | exact (hn _ rfl).elim | simp
    · cases h
  · cases h

def alen (P : Program) (t : TypeId) (x : AV) : Option AV :=
  match P.underlying t, x with
  | some .string, .str l _ => some (.int .i64 (.ofNat l))
  | some (.slice _), .nils => some (.int .i64 0)
  | some (.slice _), .sl _ _ n _ _ => some (.int .i64 (.ofNat n))
  | some (.slice _), .emp => some (.int .i64 0)
  | some (.array n _), _ => some (.int .i64 (.ofNat n))
  | _, _ => none
theorem alen_sound {t ty : TypeId} {ts : Array TypeId} {x v : AV} (h : alen P t x = some v) (ht : ts[0]? = some t) {u : Value} (hx : VR m x u) : ∃ r, VR m v r ∧ ∀ w, (Builtin.len_ ts ty #[u]).run P w = .ok r w := by
  unfold alen at h
  split at h
  · rename_i hu
    cases h
    cases hx with
    | str hc => exact ⟨_, .int _ _, fun w => by simp [Builtin.len_, ht, run_underlying hu, goInt, dec_size]⟩
  · rename_i hu
    cases h; cases hx
    exact ⟨_, .int _ _, fun w => by simp [Builtin.len_, ht, run_underlying hu, goInt]⟩
  · rename_i hu
    cases h
    cases hx with
    | sl hb => exact ⟨_, .int _ _, fun w => by simp [Builtin.len_, ht, run_underlying hu, goInt]⟩
  · rename_i hu
    cases h
    cases hx
    exact ⟨_, .int _ _, fun w => by simp [Builtin.len_, ht, run_underlying hu, goInt]⟩
  · rename_i hu
    cases h
    exact ⟨_, .int _ _, fun w => by simp [Builtin.len_, ht, run_underlying hu, goInt]⟩
  · cases h
def acap (P : Program) (t : TypeId) (x : AV) : Option AV :=
  match P.underlying t, x with
  | some (.slice _), .nils => some (.int .i64 0)
  | some (.slice _), .sl _ _ _ k true => some (.int .i64 (.ofNat k))
  | _, _ => none
theorem acap_sound {t ty : TypeId} {ts : Array TypeId} {x v : AV} (h : acap P t x = some v) (ht : ts[0]? = some t) {u : Value} (hx : VR m x u) : ∃ r, VR m v r ∧ ∀ w, (Builtin.cap_ ts ty #[u]).run P w = .ok r w := by
  unfold acap at h
  split at h
  · rename_i hu
    cases h; cases hx
    exact ⟨_, .int _ _, fun w => by simp [Builtin.cap_, ht, run_underlying hu, goInt]⟩
  · rename_i hu
    cases h
    cases hx with
    | sl hb => exact ⟨_, .int _ _, fun w => by simp [Builtin.cap_, ht, run_underlying hu, goInt]⟩
  · cases h
end
end Go.Proofs.YtknmbmdeilbdkaaGreatDoor.Ev
