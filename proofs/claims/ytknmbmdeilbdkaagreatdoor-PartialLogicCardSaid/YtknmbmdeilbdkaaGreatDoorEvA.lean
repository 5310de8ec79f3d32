/- Values and memory of a reckoner: what stands for what. No program in sight. -/
import Derived.OrdersIn
import Derived.ProofKit
namespace Go.Proofs.YtknmbmdeilbdkaaGreatDoor.Ev
open Go

/-- A value as the reckoner knows it; blocks bear names. -/
inductive AV where
  | bool (b : Bool)
  | int (k : IntKind) (n : Int)
  | str (len code : Nat)
  | nilp
  | ptr (b off : Nat)
  | nils
  | sl (b off len cap : Nat) (ex : Bool)
  | fn (f : Nat) (first captured : List AV)
  | nilf
  | yld (l : Nat)
  | mp (b : Nat)
  | ifc (t : Nat) (v : AV)
  | nili
  | agg (l : List AV)
  | tup (l : List AV)
  | emp
  | any
  deriving Inhabited

/-- A tree keyed by numbers. -/
inductive Tr (α : Type) where
  | e
  | n (v : Option α) (l r : Tr α)

namespace Tr
variable {α : Type}
/-- A key's last digit and the others (to the base two, without zero). -/
def odd (k : Nat) : Bool := Nat.beq (Nat.mod k (nat_lit 2)) (nat_lit 1)
def hlf (k : Nat) : Nat := Nat.div (Nat.sub k (nat_lit 1)) (nat_lit 2)
def isz (k : Nat) : Bool := Nat.beq k (nat_lit 0)
noncomputable def get (t : Tr α) : Nat → Option α :=
  Tr.rec (fun _ => none) (fun v _ _ gl gr k => Bool.rec (Bool.rec (gr (hlf k)) (gl (hlf k)) (odd k)) v (isz k)) t
/-- A new way. -/
noncomputable def way (f : Nat) : Nat → Option α → Tr α :=
  Nat.rec (fun _ _ => .e) (fun _ ih k a => Bool.rec (Bool.rec (.n none .e (ih (hlf k) a)) (.n none (ih (hlf k) a) .e) (odd k)) (.n a .e .e) (isz k)) f
noncomputable def put (t : Tr α) : Nat → Option α → Tr α :=
  Tr.rec (fun k a => way (nat_lit 20) k a) (fun v l r pl pr k a => Bool.rec (Bool.rec (.n v l (pr (hlf k) a)) (.n v (pl (hlf k) a) r) (odd k)) (.n a l r) (isz k)) t
theorem get_n (v : Option α) (l r : Tr α) (k : Nat) : get (.n v l r) k = if k = 0 then v else if k % 2 = 1 then get l ((k - 1) / 2) else get r ((k - 1) / 2) := by
  show (Bool.rec (motive := fun _ => Option α) (Bool.rec (motive := fun _ => Option α) (get r ((k - 1) / 2)) (get l ((k - 1) / 2)) (Nat.beq (k % 2) 1)) v (Nat.beq k 0)) = _
  cases h : Nat.beq k 0
  · rw [if_neg (Nat.ne_of_beq_eq_false h)]
    cases h2 : Nat.beq (k % 2) 1
    · rw [if_neg (Nat.ne_of_beq_eq_false h2)]
    · rw [if_pos (Nat.eq_of_beq_eq_true h2)]
  · rw [if_pos (Nat.eq_of_beq_eq_true h)]
theorem way_succ (f k : Nat) (a : Option α) : way (f + 1) k a = if k = 0 then .n a .e .e else if k % 2 = 1 then .n none (way f ((k - 1) / 2) a) .e else .n none .e (way f ((k - 1) / 2) a) := by
  show (Bool.rec (motive := fun _ => Tr α) (Bool.rec (motive := fun _ => Tr α) (.n none .e (way f ((k - 1) / 2) a)) (.n none (way f ((k - 1) / 2) a) .e) (Nat.beq (k % 2) 1)) (.n a .e .e) (Nat.beq k 0)) = _
  cases h : Nat.beq k 0
  · rw [if_neg (Nat.ne_of_beq_eq_false h)]
    cases h2 : Nat.beq (k % 2) 1
    · rw [if_neg (Nat.ne_of_beq_eq_false h2)]
    · rw [if_pos (Nat.eq_of_beq_eq_true h2)]
  · rw [if_pos (Nat.eq_of_beq_eq_true h)]
theorem put_n (v : Option α) (l r : Tr α) (k : Nat) (a : Option α) : put (.n v l r) k a = if k = 0 then .n a l r else if k % 2 = 1 then .n v (put l ((k - 1) / 2) a) r else .n v l (put r ((k - 1) / 2) a) := by
  show (Bool.rec (motive := fun _ => Tr α) (Bool.rec (motive := fun _ => Tr α) (.n v l (put r ((k - 1) / 2) a)) (.n v (put l ((k - 1) / 2) a) r) (Nat.beq (k % 2) 1)) (.n a l r) (Nat.beq k 0)) = _
  cases h : Nat.beq k 0
  · rw [if_neg (Nat.ne_of_beq_eq_false h)]
    cases h2 : Nat.beq (k % 2) 1
    · rw [if_neg (Nat.ne_of_beq_eq_false h2)]
    · rw [if_pos (Nat.eq_of_beq_eq_true h2)]
  · rw [if_pos (Nat.eq_of_beq_eq_true h)]
theorem half_inj {j k : Nat} (hj : j ≠ 0) (hk : k ≠ 0) (hb : j % 2 = k % 2) (h : (j - 1) / 2 = (k - 1) / 2) : j = k := by omega
theorem get_e (k : Nat) : get (.e : Tr α) k = none := rfl
theorem put_e (k : Nat) (a : Option α) : put (.e : Tr α) k a = way 20 k a := rfl
theorem get_way {f : Nat} : ∀ {k : Nat} {a : Option α} {j : Nat} {x : α}, get (way f k a) j = some x → j = k ∧ a = some x := by
  induction f with
  | zero => intro k a j x h; cases h
  | succ f ih =>
    intro k a j x h
    rw [way_succ] at h
    split at h
    · rename_i hk
      rw [get_n] at h
      split at h
      · rename_i hj; exact ⟨hj.trans hk.symm, h⟩
      · split at h <;> cases h
    · rename_i hk
      split at h
      · rename_i hb
        rw [get_n] at h
        split at h
        · cases h
        · rename_i hj
          split at h
          · rename_i hc
            obtain ⟨e, h⟩ := ih h
            exact ⟨half_inj hj hk (by omega) e, h⟩
          · cases h
      · rename_i hb
        rw [get_n] at h
        split at h
        · cases h
        · rename_i hj
          split at h
          · cases h
          · rename_i hc
            obtain ⟨e, h⟩ := ih h
            exact ⟨half_inj hj hk (by omega) e, h⟩
theorem get_put {t : Tr α} : ∀ {k : Nat} {a : Option α} {j : Nat} {x : α}, get (put t k a) j = some x → (j = k ∧ a = some x) ∨ (j ≠ k ∧ get t j = some x) := by
  induction t with
  | e => intro k a j x h; exact Or.inl (get_way (f := 20) h)
  | n v l r ihl ihr =>
    intro k a j x h
    rw [put_n] at h
    rw [get_n]
    split at h
    · rename_i hk
      rw [get_n] at h
      split at h
      · rename_i hj; exact Or.inl ⟨hj.trans hk.symm, h⟩
      · rename_i hj
        exact Or.inr ⟨fun e => hj (e.trans hk), by rw [if_neg hj]; exact h⟩
    · rename_i hk
      split at h
      · rename_i hb
        rw [get_n] at h
        split at h
        · rename_i hj; exact Or.inr ⟨fun e => hk (e.symm.trans hj), by rw [if_pos hj]; exact h⟩
        · rename_i hj
          split at h
          · rename_i hc
            rcases ihl h with ⟨e, h⟩ | ⟨e, h⟩
            · exact Or.inl ⟨half_inj hj hk (by omega) e, h⟩
            · exact Or.inr ⟨fun e' => e (by rw [e']), by rw [if_neg hj, if_pos hc]; exact h⟩
          · rename_i hc
            exact Or.inr ⟨fun e' => hc (by rw [e']; exact hb), by rw [if_neg hj, if_neg hc]; exact h⟩
      · rename_i hb
        rw [get_n] at h
        split at h
        · rename_i hj; exact Or.inr ⟨fun e => hk (e.symm.trans hj), by rw [if_pos hj]; exact h⟩
        · rename_i hj
          split at h
          · rename_i hc
            exact Or.inr ⟨fun e' => hb (by rw [← e']; exact hc), by rw [if_neg hj, if_pos hc]; exact h⟩
          · rename_i hc
            rcases ihr h with ⟨e, h⟩ | ⟨e, h⟩
            · exact Or.inl ⟨half_inj hj hk (by omega) e, h⟩
            · exact Or.inr ⟨fun e' => e (by rw [e']), by rw [if_neg hj, if_neg hc]; exact h⟩
noncomputable def set (t : Tr α) (k : Nat) (a : α) : Tr α := put t k (some a)
noncomputable def del (t : Tr α) (k : Nat) : Tr α := put t k none
theorem get_set {t : Tr α} {k j : Nat} {a x : α} (h : get (set t k a) j = some x) : (j = k ∧ x = a) ∨ (j ≠ k ∧ get t j = some x) := by
  rcases get_put h with ⟨e, h⟩ | h
  · cases h; exact Or.inl ⟨e, rfl⟩
  · exact Or.inr h
theorem get_del {t : Tr α} {k j : Nat} {x : α} (h : get (del t k) j = some x) : j ≠ k ∧ get t j = some x := by
  rcases get_put h with ⟨_, h⟩ | h
  · cases h
  · exact h
end Tr

/-- The bytes of a string: the code's digits to the base 256, the first one lowest. -/
def decL : Nat → Nat → List UInt8
  | 0, _ => []
  | n + 1, c => UInt8.ofNat (c % 256) :: decL n (c / 256)
def dec (len code : Nat) : ByteArray := ⟨(decL len code).toArray⟩
def encL : List UInt8 → Nat
  | [] => 0
  | b :: bs => b.toNat + 256 * encL bs
theorem decL_length (n c : Nat) : (decL n c).length = n := by
  induction n generalizing c with
  | zero => rfl
  | succ n ih => simp [decL, ih]
theorem decL_enc (l : List UInt8) : decL l.length (encL l) = l := by
  induction l with
  | nil => rfl
  | cons b bs ih =>
    have hb := b.toNat_lt
    simp only [encL, List.length_cons, decL]
    rw [show (b.toNat + 256 * encL bs) % 256 = b.toNat by omega, show (b.toNat + 256 * encL bs) / 256 = encL bs by omega, ih]
    simp
theorem encL_lt (l : List UInt8) : encL l < 256 ^ l.length := by
  induction l with
  | nil => simp [encL]
  | cons b bs ih =>
    have hb := b.toNat_lt
    simp only [encL, List.length_cons, Nat.pow_succ]
    omega
theorem encL_decL (n c : Nat) (h : c < 256 ^ n) : encL (decL n c) = c := by
  induction n generalizing c with
  | zero => simp at h; simp [decL, encL, h]
  | succ n ih =>
    have h2 : c / 256 < 256 ^ n := by rw [Nat.pow_succ] at h; omega
    simp only [decL, encL, ih _ h2]
    rw [show (UInt8.ofNat (c % 256)).toNat = c % 256 by simp]
    omega
theorem decL_inj {n c d : Nat} (hc : c < 256 ^ n) (hd : d < 256 ^ n) (h : decL n c = decL n d) : c = d := by
  rw [← encL_decL n c hc, ← encL_decL n d hd, h]
theorem decL_get (n c i : Nat) : (decL n c)[i]? = if i < n then some (UInt8.ofNat (c / 256 ^ i % 256)) else none := by
  induction n generalizing c i with
  | zero => simp [decL]
  | succ n ih =>
    cases i with
    | zero => simp [decL]
    | succ i =>
      simp only [decL, List.getElem?_cons_succ, ih, Nat.add_lt_add_iff_right, Nat.pow_succ, Nat.div_div_eq_div_mul, Nat.mul_comm 256]
theorem decL_drop (n c i : Nat) : (decL n c).drop i = decL (n - i) (c / 256 ^ i) := by
  apply List.ext_getElem?
  intro j
  rw [List.getElem?_drop, decL_get, decL_get, Nat.div_div_eq_div_mul, ← Nat.pow_add]
  by_cases h : i + j < n
  · rw [if_pos h, if_pos (by omega)]
  · rw [if_neg h, if_neg (by omega)]
theorem decL_take (n c i : Nat) (hi : i ≤ n) : (decL n c).take i = decL i (c % 256 ^ i) := by
  induction i generalizing n c with
  | zero => simp [decL]
  | succ i ih =>
    cases n with
    | zero => omega
    | succ n =>
      simp only [decL, List.take_succ_cons]
      rw [ih n (c / 256) (by omega)]
      have e1 : c % 256 ^ (i + 1) % 256 = c % 256 := Nat.mod_mod_of_dvd _ ⟨256 ^ i, by rw [Nat.pow_succ, Nat.mul_comm]⟩
      have e2 : c % 256 ^ (i + 1) / 256 = c / 256 % 256 ^ i := by rw [Nat.pow_succ, Nat.mod_mul_left_div_self]
      rw [e1, e2]
theorem decL_append (n c k d : Nat) (hc : c < 256 ^ n) : decL n c ++ decL k d = decL (n + k) (c + 256 ^ n * d) := by
  induction n generalizing c with
  | zero => simp at hc; simp [decL, hc]
  | succ n ih =>
    have h2 : c / 256 < 256 ^ n := by rw [Nat.pow_succ] at hc; omega
    rw [show n + 1 + k = (n + k) + 1 by omega]
    simp only [decL, List.cons_append]
    rw [ih _ h2]
    have e : 256 ^ (n + 1) * d = 256 * (256 ^ n * d) := by rw [Nat.pow_succ, Nat.mul_comm (256 ^ n) 256, Nat.mul_assoc]
    rw [e, show (c + 256 * (256 ^ n * d)) % 256 = c % 256 by omega, show (c + 256 * (256 ^ n * d)) / 256 = c / 256 + 256 ^ n * d by omega]

/-- Names of blocks: the block, and by how many elements it is longer than it is known to be. -/
abbrev Ren := Nat → Option (Nat × Nat)

/-- A known value stands for a value. -/
inductive VR (m : Ren) : AV → Value → Prop
  | bool (b : Bool) : VR m (.bool b) (.bool b)
  | int (k : IntKind) (n : Int) : VR m (.int k n) (.int k n)
  | str {len code : Nat} (h : code < 256 ^ len) : VR m (.str len code) (.string (dec len code))
  | nilp : VR m .nilp (.pointer none)
  | ptr {b off blk δ : Nat} (h : m b = some (blk, δ)) : VR m (.ptr b off) (.pointer (some ⟨blk, off, none⟩))
  | nils : VR m .nils (.slice none 0 0)
  | sl {b off len cap : Nat} {ex : Bool} {blk δ : Nat} (h : m b = some (blk, δ)) : VR m (.sl b off len cap ex) (.slice (some ⟨blk, off, none⟩) len (if ex then cap else cap + δ))
  | fn {f : Nat} {xs ys : List AV} {us vs : Array Value} (hl : xs.length = us.size) (h : ∀ (i : Nat) (a : AV) (v : Value), xs[i]? = some a → us[i]? = some v → VR m a v)
      (hl' : ys.length = vs.size) (h' : ∀ (i : Nat) (a : AV) (v : Value), ys[i]? = some a → vs[i]? = some v → VR m a v) : VR m (.fn f xs ys) (.func (.func f) us vs)
  | nilf : VR m .nilf .nilFunc
  | yld {l blk δ : Nat} (h : m l = some (blk, δ)) : VR m (.yld l) (.func (.yield blk) #[] #[])
  | mp {b blk δ : Nat} (h : m b = some (blk, δ)) : VR m (.mp b) (.map (some blk))
  | ifc {t : Nat} {a : AV} {v : Value} (h : VR m a v) : VR m (.ifc t a) (.iface t v)
  | nili : VR m .nili .nilIface
  | agg {xs : List AV} {vs : Array Value} (hl : xs.length = vs.size) (h : ∀ (i : Nat) (a : AV) (v : Value), xs[i]? = some a → vs[i]? = some v → VR m a v) : VR m (.agg xs) (.agg vs)
  | tup {xs : List AV} {vs : Array Value} (hl : xs.length = vs.size) (h : ∀ (i : Nat) (a : AV) (v : Value), xs[i]? = some a → vs[i]? = some v → VR m a v) : VR m (.tup xs) (.tuple vs)
  | emp (a : Addr) (cap : Nat) : VR m .emp (.slice (some a) 0 cap)
  | any (v : Value) : VR m .any v

/-- Lists of values. -/
def LR (m : Ren) (xs : List AV) (vs : List Value) : Prop := xs.length = vs.length ∧ ∀ (i : Nat) (a : AV) (v : Value), xs[i]? = some a → vs[i]? = some v → VR m a v

theorem VR.str_inv {m : Ren} {l c : Nat} {v : Value} (h : VR m (.str l c) v) : v = .string (dec l c) ∧ c < 256 ^ l := by cases h with | str hc => exact ⟨rfl, hc⟩
def Ren.le (m m' : Ren) : Prop := ∀ i p, m i = some p → m' i = some p
theorem VR.mono {m m' : Ren} (hm : Ren.le m m') {a : AV} {v : Value} (h : VR m a v) : VR m' a v := by
  induction h with
  | bool b => exact .bool b
  | int k n => exact .int k n
  | str h => exact .str h
  | nilp => exact .nilp
  | ptr h => exact .ptr (hm _ _ h)
  | nils => exact .nils
  | sl h => exact .sl (hm _ _ h)
  | fn hl _ hl' _ ih ih' => exact .fn hl ih hl' ih'
  | nilf => exact .nilf
  | yld h => exact .yld (hm _ _ h)
  | mp h => exact .mp (hm _ _ h)
  | ifc _ ih => exact .ifc ih
  | nili => exact .nili
  | agg hl _ ih => exact .agg hl ih
  | tup hl _ ih => exact .tup hl ih
  | emp a cap => exact .emp a cap
  | any v => exact .any v
theorem LR.mono {m m' : Ren} (hm : Ren.le m m') {xs : List AV} {vs : List Value} (h : LR m xs vs) : LR m' xs vs :=
  ⟨h.1, fun i a v h1 h2 => (h.2 i a v h1 h2).mono hm⟩
theorem LR.nil {m : Ren} : LR m [] [] := ⟨rfl, fun _ _ _ h => by simp at h⟩
theorem LR.cons {m : Ren} {a : AV} {v : Value} {xs : List AV} {vs : List Value} (h : VR m a v) (ht : LR m xs vs) : LR m (a :: xs) (v :: vs) := by
  refine ⟨by simp [ht.1], fun i b u h1 h2 => ?_⟩
  cases i with
  | zero => simp at h1 h2; rw [← h1, ← h2]; exact h
  | succ i => simp at h1 h2; exact ht.2 i b u h1 h2
theorem LR.tail {m : Ren} {a : AV} {v : Value} {xs : List AV} {vs : List Value} (h : LR m (a :: xs) (v :: vs)) : VR m a v ∧ LR m xs vs :=
  ⟨h.2 0 a v rfl rfl, by simpa using h.1, fun i b u h1 h2 => h.2 (i + 1) b u (by simpa using h1) (by simpa using h2)⟩
theorem LR.nil_inv {m : Ren} {vs : List Value} (h : LR m [] vs) : vs = [] := by
  cases vs with
  | nil => rfl
  | cons _ _ => simp [LR] at h
theorem LR.cons_inv {m : Ren} {a : AV} {xs : List AV} {vs : List Value} (h : LR m (a :: xs) vs) : ∃ v us, vs = v :: us ∧ VR m a v ∧ LR m xs us := by
  cases vs with
  | nil => simp [LR] at h
  | cons v us => exact ⟨v, us, rfl, h.tail.1, h.tail.2⟩
theorem LR.append {m : Ren} {xs ys : List AV} {vs us : List Value} (h : LR m xs vs) (h' : LR m ys us) : LR m (xs ++ ys) (vs ++ us) := by
  induction xs generalizing vs with
  | nil => rw [h.nil_inv]; exact h'
  | cons a xs ih =>
    obtain ⟨v, ws, rfl, h1, h2⟩ := h.cons_inv
    exact LR.cons h1 (ih h2)
theorem LR.get {m : Ren} {xs : List AV} {vs : List Value} (h : LR m xs vs) {i : Nat} {a : AV} (hi : xs[i]? = some a) : ∃ v, vs[i]? = some v ∧ VR m a v := by
  have hlt : i < xs.length := (List.getElem?_eq_some_iff.1 hi).1
  have hlt' : i < vs.length := by rw [← h.1]; exact hlt
  exact ⟨vs[i], List.getElem?_eq_getElem hlt', h.2 i a _ hi (List.getElem?_eq_getElem hlt')⟩
theorem LR.drop {m : Ren} {xs : List AV} {vs : List Value} (h : LR m xs vs) (n : Nat) : LR m (xs.drop n) (vs.drop n) :=
  ⟨by simp [h.1], fun i a v h1 h2 => h.2 (n + i) a v (by simpa [List.getElem?_drop] using h1) (by simpa [List.getElem?_drop] using h2)⟩
theorem LR.take {m : Ren} {xs : List AV} {vs : List Value} (h : LR m xs vs) (n : Nat) : LR m (xs.take n) (vs.take n) := by
  refine ⟨by simp [h.1], fun i a v h1 h2 => ?_⟩
  rw [List.getElem?_take] at h1 h2
  split at h1
  · rename_i hi; rw [if_pos hi] at h2; exact h.2 i a v h1 h2
  · cases h1
theorem VR.agg' {m : Ren} {xs : List AV} {vs : List Value} (h : LR m xs vs) : VR m (.agg xs) (.agg vs.toArray) := .agg (by simp [h.1]) (fun i a v h1 h2 => h.2 i a v h1 (by simpa using h2))
theorem VR.tup' {m : Ren} {xs : List AV} {vs : List Value} (h : LR m xs vs) : VR m (.tup xs) (.tuple vs.toArray) := .tup (by simp [h.1]) (fun i a v h1 h2 => h.2 i a v h1 (by simpa using h2))
theorem VR.agg_inv {m : Ren} {xs : List AV} {v : Value} (h : VR m (.agg xs) v) : ∃ vs : List Value, v = .agg vs.toArray ∧ LR m xs vs := by
  cases h with
  | @agg _ vs hl h => exact ⟨vs.toList, by simp, by simpa using hl, fun i a v h1 h2 => h i a v h1 (by simpa using h2)⟩
theorem VR.tup_inv {m : Ren} {xs : List AV} {v : Value} (h : VR m (.tup xs) v) : ∃ vs : List Value, v = .tuple vs.toArray ∧ LR m xs vs := by
  cases h with
  | @tup _ vs hl h => exact ⟨vs.toList, by simp, by simpa using hl, fun i a v h1 h2 => h i a v h1 (by simpa using h2)⟩
theorem VR.fn_inv {m : Ren} {f : Nat} {xs ys : List AV} {v : Value} (h : VR m (.fn f xs ys) v) : ∃ us vs : List Value, v = .func (.func f) us.toArray vs.toArray ∧ LR m xs us ∧ LR m ys vs := by
  cases h with
  | @fn _ _ _ us vs hl h hl' h' => exact ⟨us.toList, vs.toList, by simp, ⟨by simpa using hl, fun i a v h1 h2 => h i a v h1 (by simpa using h2)⟩, by simpa using hl', fun i a v h1 h2 => h' i a v h1 (by simpa using h2)⟩

/-- What lies in a block: a row of n cells of which some are known (all behind fz may be written); the block may be longer where it is open. -/
inductive AB where
  | row (ty sz n : Nat) (cells : Tr AV) (opn ro : Bool) (fz : Nat)
  | loop (s : LoopState) (tmps : Tr AV) (N : Nat) (params : List Nat) (assign body : Code) (pending : Option Code)
  | defs
  | map (es : List (AV × AV))
  | glob (n : Nat) (cells : Tr AV)

def AB.ro : AB → Bool
  | .row _ _ _ _ _ r _ => r
  | .glob _ _ => true
  | _ => false

/-- A frame's slots. -/
def TR (m : Ren) (T : Tr AV) (N : Nat) (tmps : Array Value) : Prop := tmps.size = N ∧ ∀ t a, T.get t = some a → ∃ v, tmps[t]? = some v ∧ VR m a v
theorem TR.mono {m m' : Ren} (hm : Ren.le m m') {T : Tr AV} {N : Nat} {tmps : Array Value} (h : TR m T N tmps) : TR m' T N tmps :=
  ⟨h.1, fun t a ht => let ⟨v, h1, h2⟩ := h.2 t a ht; ⟨v, h1, h2.mono hm⟩⟩
theorem TR.set {m : Ren} {T : Tr AV} {N d : Nat} {a : AV} {v : Value} {tmps : Array Value} (h : TR m T N tmps) (hd : d < N) (hv : VR m a v) : TR m (T.set d a) N (tmps.setIfInBounds d v) := by
  refine ⟨by simp [h.1], fun t b ht => ?_⟩
  rcases Tr.get_set ht with ⟨rfl, rfl⟩ | ⟨hne, ht'⟩
  · refine ⟨v, ?_, hv⟩
    rw [Array.getElem?_setIfInBounds_self_of_lt (by rw [h.1]; exact hd)]
  · obtain ⟨u, h1, h2⟩ := h.2 t b ht'
    refine ⟨u, ?_, h2⟩
    rw [Array.getElem?_setIfInBounds_ne (fun e => hne e.symm)]
    exact h1

def BR (m : Ren) : AB → Nat → Obj → Prop
  | .row ty sz n cells opn _ fz, δ, o => ∃ C fr, o = .cells C ty fr ∧ C.size = n + δ * sz ∧ (opn = false → δ = 0) ∧ (∀ i, fz ≤ i → i < C.size → ¬ (fr.1 ≤ i ∧ i < fr.2)) ∧
      ∀ i a, cells.get i = some a → i < n ∧ ∃ v, C[i]? = some v ∧ VR m a v
  | .loop s T N params assign body pending, _, o => ∃ f tmps defers, o = .loop { state := s, pending, fn := f, tmps, params := params.toArray, assign, body, defers } ∧ TR m T N tmps
  | .defs, _, o => o = .deferred (some [])
  | .map es, _, o => ∃ (entries : Array MapEntry) (clock : Nat), o = .map entries clock ∧ entries.size = es.length ∧ ∀ (i : Nat) (k v : AV), es[i]? = some (k, v) → ∃ e, entries[i]? = some e ∧ VR m k e.key ∧ VR m v e.val
  | .glob n cells, _, o => ∃ C ty fr, o = .cells C ty fr ∧ n ≤ C.size ∧ ∀ i a, cells.get i = some a → i < n ∧ ∃ v, C[i]? = some v ∧ VR m a v
theorem BR.mono {m m' : Ren} (hm : Ren.le m m') {b : AB} {δ : Nat} {o : Obj} (h : BR m b δ o) : BR m' b δ o := by
  cases b with
  | row ty sz n cells opn ro fz =>
    obtain ⟨C, fr, h1, h2, h3, h4, h5⟩ := h
    exact ⟨C, fr, h1, h2, h3, h4, fun i a hi => let ⟨x, v, y, z⟩ := h5 i a hi; ⟨x, v, y, z.mono hm⟩⟩
  | loop =>
    obtain ⟨f, tmps, d, h1, h2⟩ := h
    exact ⟨f, tmps, d, h1, h2.mono hm⟩
  | defs => exact h
  | map es =>
    obtain ⟨en, cl, h1, h2, h3⟩ := h
    exact ⟨en, cl, h1, h2, fun i k v hi => let ⟨e, x, y, z⟩ := h3 i k v hi; ⟨e, x, y.mono hm, z.mono hm⟩⟩
  | glob n cells =>
    obtain ⟨C, ty, fr, h1, h2, h3⟩ := h
    exact ⟨C, ty, fr, h1, h2, fun i a hi => let ⟨x, v, y, z⟩ := h3 i a hi; ⟨x, v, y, z.mono hm⟩⟩

/-- Memory as the reckoner knows it. -/
structure Rel (m : Ren) (H : Nat → Option AB) (w : World) : Prop where
  blk : ∀ i b, H i = some b → ∃ k δ o, m i = some (k, δ) ∧ w.heap[k]? = some o ∧ BR m b δ o
  inj : ∀ i j b b' k δ δ', H i = some b → H j = some b' → m i = some (k, δ) → m j = some (k, δ') → i = j
/-- What is known may be forgotten. -/
theorem Rel.sub {m : Ren} {H H' : Nat → Option AB} {w : World} (h : Rel m H w) (hs : ∀ i b, H' i = some b → H i = some b) : Rel m H' w :=
  ⟨fun i b hi => h.blk i b (hs i b hi), fun i j b b' k δ δ' hi hj => h.inj i j b b' k δ δ' (hs i b hi) (hs j b' hj)⟩

/-- What the reckoner does not know, or only reads, stays; what it knows behind lies in blocks that it knew before, or in new ones. -/
structure Fr (m : Ren) (H : Nat → Option AB) (w : World) (m' : Ren) (H' : Nat → Option AB) (w' : World) (c c' : Nat) : Prop where
  os : w'.os = w.os
  tape : w'.tape = w.tape
  output : w'.output = w.output
  size : w.heap.size ≤ w'.heap.size
  keep : ∀ k, k < w.heap.size → (∀ i b δ, H i = some b → b.ro = false → m i ≠ some (k, δ)) → w'.heap[k]? = w.heap[k]?
  le : Ren.le m m'
  dom : ∀ i p, m' i = some p → m i = some p ∨ (c ≤ i ∧ i < c')
  back : ∀ i b k δ, H' i = some b → m' i = some (k, δ) → w.heap.size ≤ k ∨ ∃ j b' δ', H j = some b' ∧ m j = some (k, δ') ∧ (b'.ro = true → b.ro = true)
  hd : ∀ i b, H' i = some b → (∃ b', H i = some b') ∨ (c ≤ i ∧ i < c')

def Fresh (m : Ren) (c c' : Nat) : Prop := ∀ i, c ≤ i → i < c' → m i = none
theorem Fresh.sub {m : Ren} {c c' d d' : Nat} (h : Fresh m c c') (h1 : c ≤ d) (h2 : d' ≤ c') : Fresh m d d' := fun i hi hi' => h i (Nat.le_trans h1 hi) (Nat.lt_of_lt_of_le hi' h2)
/-- The names that come later are free still. -/
theorem Fr.fresh {m m' : Ren} {H H' : Nat → Option AB} {w w' : World} {c c' d : Nat} (h : Fr m H w m' H' w' c c') (hf : Fresh m c d) (hc : c ≤ c') : Fresh m' c' d := fun i hi hi' => by
  cases hm : m' i with
  | none => rfl
  | some p =>
    rcases h.dom i p hm with h1 | ⟨_, h2⟩
    · have := hf i (Nat.le_trans hc hi) hi'
      rw [this] at h1; cases h1
    · omega
theorem Fr.refl {m : Ren} {H H' : Nat → Option AB} {w : World} {c c' : Nat} (hs : ∀ i b, H' i = some b → H i = some b) : Fr m H w m H' w c c' where
  os := rfl
  tape := rfl
  output := rfl
  size := Nat.le_refl _
  keep _ _ _ := rfl
  le _ _ h := h
  dom _ _ h := Or.inl h
  back i b k δ hi hm := Or.inr ⟨i, b, δ, hs i b hi, hm, fun h => h⟩
  hd i b hi := Or.inl ⟨b, hs i b hi⟩
theorem Fr.trans {m m1 m2 : Ren} {H H1 H2 : Nat → Option AB} {w w1 w2 : World} {c c1 c2 : Nat} (h : Fr m H w m1 H1 w1 c c1) (h' : Fr m1 H1 w1 m2 H2 w2 c1 c2) (hc : c ≤ c1) (hc' : c1 ≤ c2) : Fr m H w m2 H2 w2 c c2 where
  os := h'.os.trans h.os
  tape := h'.tape.trans h.tape
  output := h'.output.trans h.output
  size := Nat.le_trans h.size h'.size
  keep k hk hn := by
    rw [h'.keep k (Nat.lt_of_lt_of_le hk h.size) (fun i b δ hi hr hm => ?_), h.keep k hk hn]
    rcases h.back i b k δ hi hm with h1 | ⟨j, b', δ', h1, h2, h3⟩
    · omega
    · refine hn j b' δ' h1 ?_ h2
      cases hb : b'.ro with
      | false => rfl
      | true => rw [h3 hb] at hr; cases hr
  le i p hi := h'.le i p (h.le i p hi)
  dom i p hi := by
    rcases h'.dom i p hi with h1 | ⟨h1, h2⟩
    · rcases h.dom i p h1 with h3 | ⟨h3, h4⟩
      · exact Or.inl h3
      · exact Or.inr ⟨h3, by omega⟩
    · exact Or.inr ⟨by omega, h2⟩
  back i b k δ hi hm := by
    rcases h'.back i b k δ hi hm with h1 | ⟨j, b', δ', h1, h2, h3⟩
    · exact Or.inl (Nat.le_trans h.size h1)
    · rcases h.back j b' k δ' h1 h2 with h4 | ⟨j2, b2, δ2, h4, h5, h6⟩
      · exact Or.inl h4
      · exact Or.inr ⟨j2, b2, δ2, h4, h5, fun h => h3 (h6 h)⟩
  hd i b hi := by
    rcases h'.hd i b hi with ⟨b', h1⟩ | ⟨h1, h2⟩
    · rcases h.hd i b' h1 with h3 | ⟨h3, h4⟩
      · exact Or.inl h3
      · exact Or.inr ⟨h3, by omega⟩
    · exact Or.inr ⟨by omega, h2⟩
theorem Fr.widen {m m' : Ren} {H H' : Nat → Option AB} {w w' : World} {c c' d d' : Nat} (h : Fr m H w m' H' w' c c') (h1 : d ≤ c) (h2 : c' ≤ d') : Fr m H w m' H' w' d d' :=
  ⟨h.os, h.tape, h.output, h.size, h.keep, h.le, fun i p hi => (h.dom i p hi).imp id fun h => ⟨by omega, by omega⟩, h.back, fun i b hi => (h.hd i b hi).imp id fun h => ⟨by omega, by omega⟩⟩

end Go.Proofs.YtknmbmdeilbdkaaGreatDoor.Ev
