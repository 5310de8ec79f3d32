/- Texts OrdK, KeyOf, Dist, DistM, NilB, ShelfB, Ratio, laid together. -/
import Derived.Sort.Statements
import Derived.Shelf.SlSortCmp.Insertion
import Derived.Maps.OwnSet
import Derived.Maps.OwnOps
import Derived.DeepKeys4
import Derived.KernelRfl
import Derived.Shelf.Bits.Mul64
import Derived.Test.YtemeppfikpafbaaProg
import Derived.Test.YtemeppfikpafbaaRa
/- The orders of keys, messages and shares, in plain words. -/
namespace Go.Proofs.Ytemeppfikpafbaa
open Go.RowKit Go.Sort Go.Shelf
theorem orI_neg (c : Int) (r : List Int) : orI (c :: r) < 0 ↔ c < 0 ∨ (c = 0 ∧ orI r < 0) := by
  rw [show orI (c :: r) = if c = 0 then orI r else c from rfl]
  split
  · rename_i h; subst h; simp
  · rename_i h; constructor
    · exact Or.inl
    · rintro (h' | ⟨h', _⟩)
      · exact h'
      · exact absurd h' h
theorem orI_zero (c : Int) (r : List Int) : orI (c :: r) = 0 ↔ c = 0 ∧ orI r = 0 := by
  rw [show orI (c :: r) = if c = 0 then orI r else c from rfl]
  split
  · rename_i h; subst h; simp
  · rename_i h; simp [h]
theorem orI_nil : orI [] = 0 := rfl
/-- The order of keys. -/
def ltK (x y : K4) : Prop := x.kind < y.kind ∨ (x.kind = y.kind ∧ (x.a < y.a ∨ (x.a = y.a ∧ (x.b < y.b ∨ (x.b = y.b ∧ x.n < y.n)))))
theorem cmpK4_neg (x y : K4) : cmpK4 x y < 0 ↔ ltK x y := by
  unfold cmpK4 ltK
  rw [orI_neg, orI_neg, orI_neg, orI_neg, orI_nil, cmpI_neg, cmpI_neg, cmpI_neg, cmpI_neg, cmpI_zero, cmpI_zero, cmpI_zero]
  simp
theorem ltK_irrefl (x : K4) : ¬ ltK x x := by unfold ltK; omega
theorem ltK_trans {x y z : K4} (h : ltK x y) (h' : ltK y z) : ltK x z := by unfold ltK at *; omega
theorem ltK_tri {x y : K4} (h : ¬ ltK x y) (h' : ¬ ltK y x) : x = y := by
  obtain ⟨a, b, c, d⟩ := x
  obtain ⟨a', b', c', d'⟩ := y
  unfold ltK at h h'
  simp only at h h'
  have h1 : a = a' := by omega
  have h2 : b = b' := by omega
  have h3 : c = c' := by omega
  have h4 : d = d' := by omega
  rw [h1, h2, h3, h4]
instance (x y : K4) : Decidable (ltK x y) := by unfold ltK; infer_instance
theorem sgnK_neg (x y : K4) : sgnK x y < 0 ↔ ltK x y := by
  unfold sgnK
  rw [← cmpK4_neg]
  split
  · rename_i h; simp [h]
  · rename_i h
    split <;> simp [h]
theorem sgnK_zero (x y : K4) : sgnK x y = 0 ↔ x = y := by
  unfold sgnK
  constructor
  · intro h
    split at h
    · simp at h
    · rename_i h1
      split at h
      · simp at h
      · rename_i h2
        exact ltK_tri (fun e => h1 ((cmpK4_neg _ _).2 e)) (fun e => h2 ((cmpK4_neg _ _).2 e))
  · rintro rfl
    rw [if_neg (fun e => ltK_irrefl x ((cmpK4_neg _ _).1 e)), if_neg (fun e => ltK_irrefl x ((cmpK4_neg _ _).1 e))]
/-- A comparison by a strict total order. -/
structure CmpBy {α : Type} (cf : α → α → Int) (lt : α → α → Prop) : Prop where
  neg : ∀ x y, cf x y < 0 ↔ lt x y
  irrefl : ∀ x, ¬ lt x x
  trans : ∀ x y z, lt x y → lt y z → lt x z
  tri : ∀ x y, ¬ lt x y → ¬ lt y x → x = y
section
variable {α : Type} {cf : α → α → Int} {lt : α → α → Prop}
theorem CmpBy.ltOf (h : CmpBy cf lt) (x y : α) : ltOf cf x y = true ↔ lt x y := by unfold Go.Proofs.ltOf; rw [decide_eq_true_eq]; exact h.neg x y
theorem CmpBy.ltOf' (h : CmpBy cf lt) (x y : α) : Go.Proofs.ltOf cf x y = false ↔ ¬ lt x y := by rw [← h.ltOf, Bool.not_eq_true]
theorem CmpBy.swo (h : CmpBy cf lt) : SWO (Go.Proofs.ltOf cf) where
  irrefl x := (h.ltOf' x x).2 (h.irrefl x)
  trans x y z h1 h2 := (h.ltOf x z).2 (h.trans x y z ((h.ltOf x y).1 h1) ((h.ltOf y z).1 h2))
  ntrans x y z h1 h2 := by
    rw [h.ltOf'] at *
    intro h3
    by_cases e : lt y x
    · exact h2 (h.trans _ _ _ e h3)
    · have := h.tri x y h1 e
      subst this
      exact h2 h3
theorem CmpBy.total (h : CmpBy cf lt) (x y : α) (h1 : Go.Proofs.ltOf cf x y = false) (h2 : Go.Proofs.ltOf cf y x = false) : x = y := h.tri x y ((h.ltOf' x y).1 h1) ((h.ltOf' y x).1 h2)
/-- The sorted list is ascending, where no element stands twice. -/
theorem CmpBy.sorted (h : CmpBy cf lt) (l : List α) (hn : l.Nodup) : (l.mergeSort fun x y => !(Go.Proofs.ltOf cf) y x).Pairwise lt := by
  have h1 : (l.mergeSort fun x y => !(Go.Proofs.ltOf cf) y x).Pairwise (fun x y => (!(Go.Proofs.ltOf cf) y x) = true) := by
    refine List.pairwise_mergeSort (fun a b c h1 h2 => ?_) (fun a b => ?_) l
    · rw [Bool.not_eq_true', h.ltOf'] at *
      intro h3
      by_cases e : lt b a
      · exact h1 e
      · by_cases e' : lt a b
        · exact h2 (h.trans _ _ _ h3 e')
        · have := h.tri a b e' e
          subst this
          exact h2 h3
    · rw [Bool.or_eq_true, Bool.not_eq_true', Bool.not_eq_true', h.ltOf', h.ltOf']
      by_cases e : lt b a
      · right; intro e'; exact h.irrefl _ (h.trans _ _ _ e e')
      · left; exact e
  have hn' : (l.mergeSort fun x y => !(Go.Proofs.ltOf cf) y x).Nodup := (List.mergeSort_perm l _).nodup_iff.2 hn
  refine (List.Pairwise.and h1 hn').imp fun {a b} hab => ?_
  obtain ⟨h2, h3⟩ := hab
  rw [Bool.not_eq_true', h.ltOf'] at h2
  by_cases e : lt a b
  · exact e
  · exact absurd (h.tri a b e h2) h3
end
theorem cmpK_by : CmpBy cmpK4 ltK := ⟨cmpK4_neg, ltK_irrefl, fun _ _ _ => ltK_trans, fun _ _ => ltK_tri⟩
theorem sgnK_by : CmpBy sgnK ltK := ⟨sgnK_neg, ltK_irrefl, fun _ _ _ => ltK_trans, fun _ _ => ltK_tri⟩
end Go.Proofs.Ytemeppfikpafbaa

/- Keys and messages as keys of maps. -/
namespace Go.Proofs.Ytemeppfikpafbaa
open Go.RowKit Go.Maps
theorem kLaid : laidOutB Try.prog = true := by kernel_rfl
theorem lawK : Keyed Try.prog 48 := Keyed.of_law (deep_law_laid kLaid (m := 3) (by omega) (by decide +kernel) (by kernel_rfl) (by kernel_rfl))
def In64 (x : Int) : Prop := -9223372036854775808 ≤ x ∧ x ≤ 9223372036854775807
structure K4.Ok (x : K4) : Prop where
  kind : 0 ≤ x.kind ∧ x.kind ≤ 255
  a : In64 x.a
  b : In64 x.b
  n : In64 x.n
def kL (x : K4) : Lit := .string (keyBytes [.int .u8 x.kind, .int .i64 x.a, .int .i64 x.b, .int .i64 x.n])
theorem wf_i64 {x : Int} (h : In64 x) : (Lit.int .i64 x).wf = true := by
  obtain ⟨h1, h2⟩ := h
  simp [Lit.wf, IntKind.min, IntKind.max, IntKind.signed, IntKind.bits]; omega
theorem wf_u8 {x : Int} (h : 0 ≤ x ∧ x ≤ 255) : (Lit.int .u8 x).wf = true := by
  obtain ⟨h1, h2⟩ := h
  simp [Lit.wf, IntKind.min, IntKind.max, IntKind.signed, IntKind.bits]; omega
theorem lits_int {d t : Nat} {q : IntKind} {x : Int} (ht : Try.prog.underlying t = some (.int q)) (h : (Lit.int q x).wf = true) : Try.prog.keyLits (d + 1) t [.int q x] = some [.int q x] := by
  simp [Program.keyLits, ht, h]
theorem sizeK : Try.prog.types.size = 1 + (Try.prog.types.size - 1) := by decide +kernel
theorem cells46 : Try.prog.cellsOf 46 = 1 := by kernel_rfl
theorem cells3 : Try.prog.cellsOf 3 = 1 := by kernel_rfl
theorem cells48 : Try.prog.cellsOf 48 = 4 := by kernel_rfl
theorem typeK : Try.prog.keyType 48 = true := by decide +kernel
theorem keyOf_K (x : K4) (h : x.Ok) : keyOf Try.prog 48 (kA x) = some (kL x) := by
  have hl : Try.prog.keyLits (Try.prog.types.size + 1) 48 (kC x) = some [.int .u8 x.kind, .int .i64 x.a, .int .i64 x.b, .int .i64 x.n] := by
    rw [sizeK, Nat.add_comm 1]
    conv => lhs; unfold Program.keyLits
    simp only [Try.underlying48, kC]
    simp [cells48, cells46, cells3, lits_int Try.underlying46 (wf_u8 h.kind), lits_int Try.underlying3 (wf_i64 h.a), lits_int Try.underlying3 (wf_i64 h.b), lits_int Try.underlying3 (wf_i64 h.n)]
  unfold keyOf
  simp only [Try.underlying48, typeK]
  rw [show (kA x).cells.toList = kC x from rfl, hl]
  simp [kA, Value.formed, Try.underlying48, cells48, kL]
end Go.Proofs.Ytemeppfikpafbaa

/- rank.distinct at keys (61). -/
namespace Go.Proofs.Ytemeppfikpafbaa
open Go.RowKit Go.Maps
section
variable {α : Type} [DecidableEq α]
def ndStep (acc : List α) (x : α) : List α := if x ∈ acc then acc else acc ++ [x]
/-- The different elements, in the order in which they come first. -/
def nd (l : List α) : List α := l.foldl ndStep []
theorem nd_push (l : List α) (x : α) : nd (l ++ [x]) = ndStep (nd l) x := by unfold nd; rw [List.foldl_append]; rfl
theorem nd_take (l : List α) (j : Nat) (h : j < l.length) : nd (l.take (j + 1)) = ndStep (nd (l.take j)) l[j] := by rw [List.take_succ_eq_append_getElem h, nd_push]
theorem mem_ndStep (acc : List α) (x y : α) : y ∈ ndStep acc x ↔ y ∈ acc ∨ y = x := by
  unfold ndStep
  split
  · rename_i h
    exact ⟨Or.inl, fun h' => h'.elim id (fun e => by rw [e]; exact h)⟩
  · simp
theorem mem_foldl_nd : ∀ (l acc : List α) (y : α), y ∈ l.foldl ndStep acc ↔ y ∈ acc ∨ y ∈ l
  | [], acc, y => by simp
  | x :: r, acc, y => by rw [List.foldl_cons, mem_foldl_nd r, mem_ndStep, List.mem_cons, or_assoc]
theorem mem_nd (l : List α) (y : α) : y ∈ nd l ↔ y ∈ l := by unfold nd; rw [mem_foldl_nd]; simp
theorem nodup_ndStep {acc : List α} (h : acc.Nodup) (x : α) : (ndStep acc x).Nodup := by
  unfold ndStep
  split
  · exact h
  · rename_i hx
    rw [List.nodup_append]
    exact ⟨h, by simp, fun a ha b hb e => by rw [List.mem_singleton] at hb; subst hb; subst e; exact hx ha⟩
theorem nodup_foldl_nd : ∀ (l acc : List α), acc.Nodup → (l.foldl ndStep acc).Nodup
  | [], _, h => h
  | x :: r, _acc, h => nodup_foldl_nd r _ (nodup_ndStep h x)
theorem nodup_nd (l : List α) : (nd l).Nodup := nodup_foldl_nd l [] List.nodup_nil
/-- Block b is a map to true whose keys are those of X. -/
def SetOf (KT : TypeId) (Ok : α → Prop) (kl : α → Lit) (m : Nat) (w : World) (b : Nat) (X : List α) : Prop :=
  ∃ n D, w.ownsMap (H := Unit) Try.prog KT (plainElem Try.prog 4) b n D ∧ n ≤ m ∧ Maps.size D = X.length ∧ ∀ x, Ok x → (has D (kl x) = true ↔ x ∈ X)
omit [DecidableEq α] in
theorem SetOf.keep {KT : TypeId} {Ok : α → Prop} {kl : α → Lit} {m : Nat} {w w' : World} {b : Nat} {X : List α} (h : SetOf KT Ok kl m w b X) (hb : w'.heap[b]? = w.heap[b]?) : SetOf KT Ok kl m w' b X := by
  obtain ⟨n, D, ⟨es, clock, h1, h2⟩, h3⟩ := h
  exact ⟨n, D, ⟨es, clock, hb.trans h1, h2⟩, h3⟩
end
def boolD (b : Bool) : DataW Unit := .lit (.bool b)
theorem kA_inj {x y : K4} (h : kA x = kA y) : x = y := by
  obtain ⟨a, b, c, d⟩ := x
  obtain ⟨a', b', c', d'⟩ := y
  simp [kA] at h
  obtain ⟨rfl, rfl, rfl, rfl⟩ := h
  rfl
theorem kL_inj {x y : K4} (hx : x.Ok) (hy : y.Ok) (h : kL x = kL y) : x = y := kA_inj (lawK.inj (keyOf_K x hx) (by rw [h]; exact keyOf_K y hy))
abbrev SetK (m : Nat) (w : World) (b : Nat) (X : List K4) : Prop := SetOf 48 K4.Ok kL m w b X
theorem SetK.start (w : World) : SetK 0 (w.alloc (.map #[] 0)) w.heap.size [] := ⟨0, .map [], World.ownsMap_made w _ _ _, Nat.zero_le _, rfl, fun s _ => by simp [has_eq]⟩
theorem SetK.put {w w' : World} {b n m : Nat} {X : List K4} {D : DataW Unit} {x : K4} (ho : w.ownsMap (H := Unit) Try.prog 48 (plainElem Try.prog 4) b n D) (hx : x.Ok) (hn : n ≤ m) (hs : Maps.size D = X.length) (hD : ∀ s : K4, s.Ok → (has D (kL s) = true ↔ s ∈ X))
    (h : w'.ownsMap (H := Unit) Try.prog 48 (plainElem Try.prog 4) b (n + 1) (D.put (kL x) (boolD true))) : SetK (m + 1) w' b (ndStep X x) := by
  refine ⟨n + 1, _, h, by omega, ?_, fun s hs' => ?_⟩
  · rw [size_put (ho.tidy lawK)]
    unfold ndStep
    by_cases e : x ∈ X
    · rw [if_pos ((hD x hx).2 e), if_pos e, hs]
    · rw [if_neg (fun h' => e ((hD x hx).1 h')), if_neg e, hs]; simp
  · rw [mem_ndStep]
    by_cases e : s = x
    · rw [e, has_put_same ho.isMap (show WideAt.IsKeyLit (kL x) from trivial)]; simp
    · have hne : kL s ≠ kL x := fun he => e (kL_inj hs' hx he)
      rw [has_put_other hne, hD s hs']
      exact ⟨Or.inl, fun h' => h'.elim id (fun e' => absurd e' e)⟩
theorem run_makeMap133 (n : Int) (w : World) : (Instr.makeMap 133 (some (.int .i64 n))).run Try.prog w = .ok (.map (some w.heap.size)) (w.alloc (.map #[] 0)) := by
  simp [Instr.makeMap, run_underlying Try.underlying133, asInt, asIntOf]
set_option maxRecDepth 100000 in
set_option maxHeartbeats 1000000 in
theorem distinctK_any (S : Nat → Prop) (l : List K4) (v : Value) (w : World) (hl : l.length < 1000000) (hok : ∀ x ∈ l, x.Ok) (h : Row S w 4 l.length v (flatC kC l)) :
    Calls Try.prog 61 #[v] w fun e w' => e = .returned (.int .i64 (nd l).length) ∧ Below w.heap.size w w' := by
  obtain ⟨a, cap, rfl, _⟩ := h.shape
  have HR := Lib.hid h; clear h
  have HOK := Lib.hid hok; clear hok
  have hmm := run_makeMap133
  go_enter Try.func61, Try.ntmps61
  go_wp2_with fail
  clear hmm
  go_loopw [11] (fun i wr => ∃ k : Nat, k ≤ l.length ∧ i = .int .i64 k ∧ Hid (Below w.heap.size w wr) ∧ Hid (SetK k wr w.heap.size (nd (l.take k)))) (fun i _ => l.length - (intOf i).toNat)
  case atStart => exact ⟨0, Nat.zero_le _, rfl, Lib.hid ((Below.refl _ _).alloc (Nat.le_refl _) _), Lib.hid (SetK.start w)⟩
  case round =>
    obtain ⟨k, hk, rfl, HB, HM⟩ := hrel
    by_cases hlt : k < l.length
    · obtain ⟨b, off, rfl, _, hc⟩ := HR.out.atC kC_len hlt
      have g0 := below_cell HB.out (hc 0 (.int .u8 l[k].kind) rfl)
      have g1 := below_cell HB.out (hc 1 (.int .i64 l[k].a) rfl)
      have g2 := below_cell HB.out (hc 2 (.int .i64 l[k].b) rfl)
      have g3 := below_cell HB.out (hc 3 (.int .i64 l[k].n) rfl)
      rw [Nat.add_zero] at g0
      clear hc
      obtain ⟨n, D, ho, hnk, hsz, hD⟩ := HM.out
      have HO := Lib.hid ho
      have HD := Lib.hid (And.intro hnk (And.intro hsz hD))
      have HX := Lib.hid (HOK.out _ (List.getElem_mem hlt))
      have HT := Lib.hid (nd_take l k hlt)
      clear ho hnk hsz hD
      generalize l[k] = x at *
      have hbg := cell_lt g0
      have hs0 := HB.out.size
      have HWV := Lib.hid (show plainElem (H := Unit) Try.prog 4 (.bool true) = some (boolD true, []) from plainElem_bool Try.underlying4 true)
      have hn : n < maxLen := by have := HD.out.1; unfold maxLen; omega
      have HBA := Lib.hid (HB.out.alloc hs0 (.cells #[.int .u8 x.kind, .int .i64 x.a, .int .i64 x.b, .int .i64 x.n] 48))
      have HOA := Lib.hid (show (wr.alloc (.cells #[.int .u8 x.kind, .int .i64 x.a, .int .i64 x.b, .int .i64 x.n] 48)).ownsMap (H := Unit) Try.prog 48 (plainElem Try.prog 4) w.heap.size n D from by
        obtain ⟨es, clock, hb, r⟩ := HO.out
        exact ⟨es, clock, (Below.heap_alloc _ _ _ HO.out.lt).trans hb, r⟩)
      have HK := Lib.hid (show keyOf Try.prog 48 (.agg #[.int .u8 x.kind, .int .i64 x.a, .int .i64 x.b, .int .i64 x.n]) = some (kL x) from keyOf_K x HX.out)
      go_wp2_with (at_mapUpdate; refine wpList_mapUpdate_own _ rfl _ _ _ 133 rfl 48 4 lawK Try.underlying133 _ w.heap.size n D rfl HOA.out hn _ _ _ rfl rfl HK.out _ [] HWV.out ?_; intro w1 hown1 hgrow1)
      have HB1 := Lib.hid (HBA.out.grown hgrow1 HBA.out.size (fun k e => by cases e; exact Nat.le_refl _))
      have HS1 := Lib.hid (SetK.put HOA.out HX.out HD.out.1 HD.out.2.1 HD.out.2.2 hown1)
      clear hown1 hgrow1 g0 g1 g2 g3
      go_wp2_with fail
      go_roundw
      case rel => exact ⟨k + 1, by omega, by go_num, HB1, Lib.hid (by rw [HT.out]; exact HS1.out)⟩
      case measure => simp [intOf]; omega
    · have HTK := Lib.hid (show l.take k = l from List.take_of_length_le (by omega))
      obtain ⟨n, D, ho, hnk, hsz, hD⟩ := HM.out
      rw [HTK.out] at hsz
      have hln := fun ty => ho.len Try.underlying133 ty
      rw [hsz] at hln
      clear ho hnk hsz hD
      go_wp2_with fail
      go_ret
      exact ⟨rfl, HB.out⟩
end Go.Proofs.Ytemeppfikpafbaa

/- Messages as keys of maps; rank.distinct at messages (62). -/
namespace Go.Proofs.Ytemeppfikpafbaa
open Go.RowKit Go.Maps
structure M3 where
  f : Int
  t : Int
  n : Int
deriving DecidableEq
instance : Inhabited M3 := ⟨⟨0, 0, 0⟩⟩
def mC (x : M3) : List Value := [.int .i64 x.f, .int .i64 x.t, .int .i64 x.n]
def mA (x : M3) : Value := .agg #[.int .i64 x.f, .int .i64 x.t, .int .i64 x.n]
theorem mC_len (x : M3) : (mC x).length = 3 := rfl
structure M3.Ok (x : M3) : Prop where
  f : In64 x.f
  t : In64 x.t
  n : In64 x.n
def mL (x : M3) : Lit := .string (keyBytes [.int .i64 x.f, .int .i64 x.t, .int .i64 x.n])
theorem lawM : Keyed Try.prog 54 := Keyed.of_law (deep_law_laid kLaid (m := 3) (by omega) (by decide +kernel) (by kernel_rfl) (by kernel_rfl))
theorem cells54 : Try.prog.cellsOf 54 = 3 := by kernel_rfl
theorem typeM : Try.prog.keyType 54 = true := by decide +kernel
theorem keyOf_M (x : M3) (h : x.Ok) : keyOf Try.prog 54 (mA x) = some (mL x) := by
  have hl : Try.prog.keyLits (Try.prog.types.size + 1) 54 (mC x) = some [.int .i64 x.f, .int .i64 x.t, .int .i64 x.n] := by
    rw [sizeK, Nat.add_comm 1]
    conv => lhs; unfold Program.keyLits
    simp only [Try.underlying54, mC]
    simp [cells54, cells3, lits_int Try.underlying3 (wf_i64 h.f), lits_int Try.underlying3 (wf_i64 h.t), lits_int Try.underlying3 (wf_i64 h.n)]
  unfold keyOf
  simp only [Try.underlying54, typeM]
  rw [show (mA x).cells.toList = mC x from rfl, hl]
  simp [mA, Value.formed, Try.underlying54, cells54, mL]
theorem mA_inj {x y : M3} (h : mA x = mA y) : x = y := by
  obtain ⟨a, b, c⟩ := x
  obtain ⟨a', b', c'⟩ := y
  simp [mA] at h
  obtain ⟨rfl, rfl, rfl⟩ := h
  rfl
theorem mL_inj {x y : M3} (hx : x.Ok) (hy : y.Ok) (h : mL x = mL y) : x = y := mA_inj (lawM.inj (keyOf_M x hx) (by rw [h]; exact keyOf_M y hy))
abbrev SetM (m : Nat) (w : World) (b : Nat) (X : List M3) : Prop := SetOf 54 M3.Ok mL m w b X
theorem SetM.start (w : World) : SetM 0 (w.alloc (.map #[] 0)) w.heap.size [] := ⟨0, .map [], World.ownsMap_made w _ _ _, Nat.zero_le _, rfl, fun s _ => by simp [has_eq]⟩
theorem SetM.put {w w' : World} {b n m : Nat} {X : List M3} {D : DataW Unit} {x : M3} (ho : w.ownsMap (H := Unit) Try.prog 54 (plainElem Try.prog 4) b n D) (hx : x.Ok) (hn : n ≤ m) (hs : Maps.size D = X.length) (hD : ∀ s : M3, s.Ok → (has D (mL s) = true ↔ s ∈ X))
    (h : w'.ownsMap (H := Unit) Try.prog 54 (plainElem Try.prog 4) b (n + 1) (D.put (mL x) (boolD true))) : SetM (m + 1) w' b (ndStep X x) := by
  refine ⟨n + 1, _, h, by omega, ?_, fun s hs' => ?_⟩
  · rw [size_put (ho.tidy lawM)]
    unfold ndStep
    by_cases e : x ∈ X
    · rw [if_pos ((hD x hx).2 e), if_pos e, hs]
    · rw [if_neg (fun h' => e ((hD x hx).1 h')), if_neg e, hs]; simp
  · rw [mem_ndStep]
    by_cases e : s = x
    · rw [e, has_put_same ho.isMap (show WideAt.IsKeyLit (mL x) from trivial)]; simp
    · have hne : mL s ≠ mL x := fun he => e (mL_inj hs' hx he)
      rw [has_put_other hne, hD s hs']
      exact ⟨Or.inl, fun h' => h'.elim id (fun e' => absurd e' e)⟩
theorem run_makeMap192 (n : Int) (w : World) : (Instr.makeMap 192 (some (.int .i64 n))).run Try.prog w = .ok (.map (some w.heap.size)) (w.alloc (.map #[] 0)) := by
  simp [Instr.makeMap, run_underlying Try.underlying192, asInt, asIntOf]
set_option maxRecDepth 100000 in
set_option maxHeartbeats 1000000 in
theorem distinctM_any (S : Nat → Prop) (l : List M3) (v : Value) (w : World) (hl : l.length < 1000000) (hok : ∀ x ∈ l, x.Ok) (h : Row S w 3 l.length v (flatC mC l)) :
    Calls Try.prog 62 #[v] w fun e w' => e = .returned (.int .i64 (nd l).length) ∧ Below w.heap.size w w' := by
  obtain ⟨a, cap, rfl, _⟩ := h.shape
  have HR := Lib.hid h; clear h
  have HOK := Lib.hid hok; clear hok
  have hmm := run_makeMap192
  go_enter Try.func62, Try.ntmps62
  go_wp2_with fail
  clear hmm
  go_loopw [11] (fun i wr => ∃ k : Nat, k ≤ l.length ∧ i = .int .i64 k ∧ Hid (Below w.heap.size w wr) ∧ Hid (SetM k wr w.heap.size (nd (l.take k)))) (fun i _ => l.length - (intOf i).toNat)
  case atStart => exact ⟨0, Nat.zero_le _, rfl, Lib.hid ((Below.refl _ _).alloc (Nat.le_refl _) _), Lib.hid (SetM.start w)⟩
  case round =>
    obtain ⟨k, hk, rfl, HB, HM⟩ := hrel
    by_cases hlt : k < l.length
    · obtain ⟨b, off, rfl, _, hc⟩ := HR.out.atC mC_len hlt
      have g0 := below_cell HB.out (hc 0 (.int .i64 l[k].f) rfl)
      have g1 := below_cell HB.out (hc 1 (.int .i64 l[k].t) rfl)
      have g2 := below_cell HB.out (hc 2 (.int .i64 l[k].n) rfl)
      rw [Nat.add_zero] at g0
      clear hc
      obtain ⟨n, D, ho, hnk, hsz, hD⟩ := HM.out
      have HO := Lib.hid ho
      have HD := Lib.hid (And.intro hnk (And.intro hsz hD))
      have HX := Lib.hid (HOK.out _ (List.getElem_mem hlt))
      have HT := Lib.hid (nd_take l k hlt)
      clear ho hnk hsz hD
      generalize l[k] = x at *
      have hbg := cell_lt g0
      have hs0 := HB.out.size
      have HWV := Lib.hid (show plainElem (H := Unit) Try.prog 4 (.bool true) = some (boolD true, []) from plainElem_bool Try.underlying4 true)
      have hn : n < maxLen := by have := HD.out.1; unfold maxLen; omega
      have HBA := Lib.hid (HB.out.alloc hs0 (.cells #[.int .i64 x.f, .int .i64 x.t, .int .i64 x.n] 54))
      have HOA := Lib.hid (show (wr.alloc (.cells #[.int .i64 x.f, .int .i64 x.t, .int .i64 x.n] 54)).ownsMap (H := Unit) Try.prog 54 (plainElem Try.prog 4) w.heap.size n D from by
        obtain ⟨es, clock, hb, r⟩ := HO.out
        exact ⟨es, clock, (Below.heap_alloc _ _ _ HO.out.lt).trans hb, r⟩)
      have HK := Lib.hid (show keyOf Try.prog 54 (.agg #[.int .i64 x.f, .int .i64 x.t, .int .i64 x.n]) = some (mL x) from keyOf_M x HX.out)
      go_wp2_with (at_mapUpdate; refine wpList_mapUpdate_own _ rfl _ _ _ 192 rfl 54 4 lawM Try.underlying192 _ w.heap.size n D rfl HOA.out hn _ _ _ rfl rfl HK.out _ [] HWV.out ?_; intro w1 hown1 hgrow1)
      have HB1 := Lib.hid (HBA.out.grown hgrow1 HBA.out.size (fun k e => by cases e; exact Nat.le_refl _))
      have HS1 := Lib.hid (SetM.put HOA.out HX.out HD.out.1 HD.out.2.1 HD.out.2.2 hown1)
      clear hown1 hgrow1 g0 g1 g2
      go_wp2_with fail
      go_roundw
      case rel => exact ⟨k + 1, by omega, by go_num, HB1, Lib.hid (by rw [HT.out]; exact HS1.out)⟩
      case measure => simp [intOf]; omega
    · have HTK := Lib.hid (show l.take k = l from List.take_of_length_le (by omega))
      obtain ⟨n, D, ho, hnk, hsz, hD⟩ := HM.out
      rw [HTK.out] at hsz
      have hln := fun ty => ho.len Try.underlying192 ty
      rw [hsz] at hln
      clear ho hnk hsz hD
      go_wp2_with fail
      go_ret
      exact ⟨rfl, HB.out⟩
end Go.Proofs.Ytemeppfikpafbaa

/- Small facts on rows: nil slices, appended rows, worlds that grow. -/
namespace Go.Proofs.Ytemeppfikpafbaa
open Go.RowKit
theorem more_alloc (w : World) (o : Obj) : More w (w.alloc o) := (Lay.alloc w o).1
def NilA (v : Value) : Prop := ∀ n c, v = .slice none n c → c = 0
theorem ownsRow_empty (w : World) (e : TypeId) (size : Nat) : (w.alloc (.cells #[] e)).ownsRow w.heap.size e size (.slice (some ⟨w.heap.size, 0, none⟩) 0 0) 0 [] :=
  World.ownsRow_made (base := w.heap.size) (e := e) (size := size) w #[] 0 (Nat.le_refl _) (by unfold maxLen; omega) (by simp)
theorem owns_nil {w : World} {B : Nat} {e : TypeId} {n size : Nat} {v : Value} {xs : List Value} (h : w.ownsRow B e size v n xs) : NilA v := by
  obtain ⟨_, h | ⟨g, cap, cur, rfl, _⟩⟩ := h
  · rw [h.1]; intro n c e; cases e; rfl
  · intro n c e; cases e
theorem mC_one (l : List M3) : ∀ u ∈ flatC mC l, u.oneCell' = true := by
  intro u hu
  unfold flatC at hu
  obtain ⟨x, _, hx⟩ := List.mem_flatMap.1 hu
  simp [mC] at hx
  rcases hx with rfl | rfl | rfl <;> rfl
theorem Row.lt {S : Nat → Prop} {w : World} {size n : Nat} {v : Value} {xs : List Value} (hs : 0 < size) (h : Row S w size n v xs) : Row (fun b => S b ∧ b < w.heap.size) w size n v xs :=
  h.mono2 hs fun _ _ _ hb hc => ⟨⟨hb, cell_lt hc⟩, hc⟩
theorem moreGrown {w w1 w2 : World} {B : Option Nat} (h : More w w1) (g : w1.grownBy w2 B) (hB : ∀ b, B = some b → w.heap.size ≤ b) : More w w2 :=
  ⟨g.os.trans h.os, g.tape.trans h.tape, g.output.trans h.output, Nat.le_trans h.size g.size, fun k hk _ => (g.block k (Nat.lt_of_lt_of_le hk h.size) (fun e => by have := hB k e.symm; omega)).trans (h.block hk)⟩
theorem row_news {S : Nat → Prop} {α : Type} {c : α → List Value} {k : Nat} (_hk : ∀ x, (c x).length = k) {w : World} {l : List α} {ta : Addr} {cap : Nat} (h : Row S w k l.length (.slice (some ta) l.length cap) (flatC c l)) : ∀ i u, (flatC c l)[i]? = some u → w.cell? (ta.add i) = some u := fun i u hu => by
  have hne : l.length ≠ 0 := by
    intro e
    have : l = [] := List.length_eq_zero_iff.1 e
    rw [this] at hu; simp [flatC] at hu
  obtain ⟨b2, off2, he, _, _, hc2⟩ := h.at hne
  cases he
  rw [Addr.add_lit]
  exact hc2 i u hu
end Go.Proofs.Ytemeppfikpafbaa

/-
  DERIVED: THE SHELF's CONTRACTS AT THIS DUMP, IN PLAIN WORDS (tools/lay-plain.mjs out of 'TryShelfB.lean', which tools/lay-shelf.mjs wrote): THE SAME DECLARATIONS UNDER THE SAME NAMES: 'import', 'namespace', 'open', 'def', 'theorem' AND NOTHING ELSE: no command of the shelf's: FOR A HAND-IN. Each laying: the table of numbers ('.._ren') and one theorem, a field a fact of the dump's own or the kernel's comparison; each contract: ONE APPLICATION.
-/
namespace Go.Proofs
open Go.Shelf
def Try.lays264_ren : Go.Shelf.Ren := ⟨fun | 264 => 121 | n => n, fun | 53 => 137 | 46 => 195 | n => n, fun | n => n⟩
theorem Try.lays264 : Go.Proofs.Lays.n264 Try.prog Try.lays264_ren := {
  mixed := by kernel_rfl
  f264 := Try.func121.trans (congrArg some (by kernel_rfl))
  t46 := Try.underlying195
  a46 := Try.isAgg195
  z46 := Try.sizeOf195
  v46 := Try.zeroValue195
  t53 := Try.underlying137
  a53 := Try.isAgg137
  z53 := Try.sizeOf137
  v53 := Try.zeroValue137 }
end Go.Proofs

/- package ratio at degrees: size (76), gcd (78), one (74), Valid (31), times (75), order (77), Cmp (30). -/
namespace Go.Proofs.Ytemeppfikpafbaa
open Go.RowKit
theorem size_any (v : Int) (w : World) (h0 : 0 ≤ v) (h1 : v ≤ 1000000) : Calls Try.prog 76 #[.int .i64 v] w fun e w' => e = .returned (.int .u64 v) ∧ w' = w := by
  have t1 : decide (v < 0) = false := by simpa using h0
  go_enter Try.func76, Try.ntmps76
  go_wp2_with fail
  go_ret
  exact ⟨rfl, rfl⟩
theorem gcd0_any (w : World) : Calls Try.prog 78 #[.int .u64 0, .int .u64 1] w fun e w' => e = .returned (.int .u64 1) ∧ w' = w := by
  go_enter Try.func78, Try.ntmps78
  go_wp2_with fail
  refine wp_loop_rounds 1 ?_
  rw [rounds_succ]
  go_wp2_with fail
  go_ret
  exact ⟨rfl, rfl⟩
theorem gcd1_any (n : Int) (w : World) (_h0 : 1 ≤ n) (_h1 : n ≤ 1000000) : Calls Try.prog 78 #[.int .u64 1, .int .u64 n] w fun e w' => e = .returned (.int .u64 1) ∧ w' = w := by
  have hm : n % 1 = 0 := by omega
  go_enter Try.func78, Try.ntmps78
  go_wp2_with fail
  refine wp_loop_rounds 2 ?_
  rw [rounds_succ]
  go_wp2_with fail
  rw [rounds_succ]
  go_wp2_with fail
  go_ret
  exact ⟨rfl, rfl⟩
/-- A degree: 0 of 0 (none), 0 of 1, or 1 of n. -/
def OkR (x : Int × Int) : Prop := x = (0, 0) ∨ x = (0, 1) ∨ (x.1 = 1 ∧ 1 ≤ x.2 ∧ x.2 ≤ 1000)
def rA (x : Int × Int) : Value := .agg #[.int .i64 x.1, .int .i64 x.2]
def oneR (x : Int × Int) : Int × Int := if x = (0, 0) then (0, 1) else x
set_option maxRecDepth 100000 in
theorem one_any (x : Int × Int) (w : World) (h : OkR x) : Calls Try.prog 74 #[rA x] w fun e w' => e = .returned (rA (oneR x)) ∧ Lay w w' := by
  obtain ⟨p, q⟩ := x
  unfold rA
  by_cases hz : p = 0 ∧ q = 0
  · obtain ⟨rfl, rfl⟩ := hz
    go_enter Try.func74, Try.ntmps74
    go_wp2_with fail
    have h := alloc_at (w.alloc (.cells #[.int .i64 0, .int .i64 0] 32)) (.cells #[.int .i64 0, .int .i64 1] 32) (n := w.heap.size + 1) (by simp)
    have c0 : ((w.alloc (.cells #[.int .i64 0, .int .i64 0] 32)).alloc (.cells #[.int .i64 0, .int .i64 1] 32)).cell? ⟨w.heap.size + 1, 0, none⟩ = some (.int .i64 0) := cell_of_blk h rfl
    have c1 : ((w.alloc (.cells #[.int .i64 0, .int .i64 0] 32)).alloc (.cells #[.int .i64 0, .int .i64 1] 32)).cell? ⟨w.heap.size + 1, 1, none⟩ = some (.int .i64 1) := cell_of_blk h rfl
    exact bodyPost_ret (v := .agg #[.int .i64 0, .int .i64 1]) (by simp [results, Try.results74, go_sem, c0, c1]) rfl ⟨rfl, (Lay.alloc _ _).trans (Lay.alloc _ _)⟩
  · have HO := Lib.hid (show oneR (p, q) = (p, q) by unfold oneR; rw [if_neg (by simpa using hz)])
    rw [HO.out]
    have hb : -9223372036854775808 ≤ p ∧ p ≤ 9223372036854775807 ∧ -9223372036854775808 ≤ q ∧ q ≤ 9223372036854775807 := by
      rcases h with h | h | h
      · cases h; omega
      · cases h; omega
      · simp only at h; omega
    clear h HO
    by_cases hp : p = 0
    · subst hp
      have hq : ¬ q = 0 := fun e => hz ⟨rfl, e⟩
      clear hz
      go_enter Try.func74, Try.ntmps74
      go_wp2_with fail
      have h := alloc_at (w.alloc (.cells #[.int .i64 0, .int .i64 q] 32)) (.cells #[.int .i64 0, .int .i64 q] 32) (n := w.heap.size + 1) (by simp)
      have c0 : ((w.alloc (.cells #[.int .i64 0, .int .i64 q] 32)).alloc (.cells #[.int .i64 0, .int .i64 q] 32)).cell? ⟨w.heap.size + 1, 0, none⟩ = some (.int .i64 0) := cell_of_blk h rfl
      have c1 : ((w.alloc (.cells #[.int .i64 0, .int .i64 q] 32)).alloc (.cells #[.int .i64 0, .int .i64 q] 32)).cell? ⟨w.heap.size + 1, 1, none⟩ = some (.int .i64 q) := cell_of_blk h rfl
      exact bodyPost_ret (v := .agg #[.int .i64 0, .int .i64 q]) (by simp [results, Try.results74, go_sem, c0, c1]) rfl ⟨rfl, (Lay.alloc _ _).trans (Lay.alloc _ _)⟩
    · clear hz
      go_enter Try.func74, Try.ntmps74
      go_wp2_with fail
      have h := alloc_at (w.alloc (.cells #[.int .i64 p, .int .i64 q] 32)) (.cells #[.int .i64 p, .int .i64 q] 32) (n := w.heap.size + 1) (by simp)
      have c0 : ((w.alloc (.cells #[.int .i64 p, .int .i64 q] 32)).alloc (.cells #[.int .i64 p, .int .i64 q] 32)).cell? ⟨w.heap.size + 1, 0, none⟩ = some (.int .i64 p) := cell_of_blk h rfl
      have c1 : ((w.alloc (.cells #[.int .i64 p, .int .i64 q] 32)).alloc (.cells #[.int .i64 p, .int .i64 q] 32)).cell? ⟨w.heap.size + 1, 1, none⟩ = some (.int .i64 q) := cell_of_blk h rfl
      exact bodyPost_ret (v := .agg #[.int .i64 p, .int .i64 q]) (by simp [results, Try.results74, go_sem, c0, c1]) rfl ⟨rfl, (Lay.alloc _ _).trans (Lay.alloc _ _)⟩
theorem gcdR_any (x : Int × Int) (w : World) (h : OkR x) (hz : x ≠ (0, 0)) : Calls Try.prog 78 #[.int .u64 x.1, .int .u64 x.2] w fun e w' => e = .returned (.int .u64 1) ∧ w' = w := by
  rcases h with h | h | ⟨h1, h2, h3⟩
  · exact absurd h hz
  · rw [h]; exact gcd0_any w
  · rw [h1]; exact gcd1_any x.2 w h2 (by omega)
set_option maxRecDepth 100000 in
theorem valid_any (x : Int × Int) (w : World) (h : OkR x) : Calls Try.prog 31 #[rA x] w fun e w' => e = .returned (.bool true) ∧ Lay w w' := by
  obtain ⟨p, q⟩ := x
  unfold rA
  rcases h with h | h | ⟨h1, h2, h3⟩
  · cases h
    go_enter Try.func31, Try.ntmps31
    go_wp2_with fail
    go_quiet (fail)
    go_wp2_with fail
    go_ret
    exact ⟨rfl, (Lay.alloc _ _).trans (Lay.drewN _ _)⟩
  · cases h
    go_enter Try.func31, Try.ntmps31
    go_wp2_with fail
    go_quiet (first | (go_at_call 76; exact Calls.quiet_of_same (size_any _ _ (by omega) (by omega))) | (go_at_call 78; exact Calls.quiet_of_same (gcd0_any _)))
    go_wp2_with fail
    go_ret
    exact ⟨rfl, (Lay.alloc _ _).trans (Lay.drewN _ _)⟩
  · simp only at h1 h2 h3
    subst h1
    have t1 : decide (0 < q) = true := by simp; omega
    have hq0 : 0 ≤ q := by omega
    have hq1 : q ≤ 1000000 := by omega
    go_enter Try.func31, Try.ntmps31
    go_wp2_with fail
    go_quiet (first | (go_at_call 76; exact Calls.quiet_of_same (size_any _ _ (by omega) (by omega))) | (go_at_call 78; exact Calls.quiet_of_same (gcd1_any q _ h2 hq1)))
    go_wp2_with fail
    go_ret
    exact ⟨rfl, (Lay.alloc _ _).trans (Lay.drewN _ _)⟩
theorem mul_any (x y : Int) (w : World) (h0 : 0 ≤ x) (h1 : x ≤ 1000) (h2 : 0 ≤ y) (h3 : y ≤ 1000) : Calls Try.prog 121 #[.int .u64 x, .int .u64 y] w fun e w' => e = .returned (.tuple #[.int .u64 0, .int .u64 (x * y)]) ∧ w' = w := by
  obtain ⟨a, rfl⟩ : ∃ a : Nat, x = a := ⟨x.toNat, by omega⟩
  obtain ⟨b, rfl⟩ : ∃ b : Nat, y = b := ⟨y.toNat, by omega⟩
  have hab : a * b ≤ 1000 * 1000 := Nat.mul_le_mul (by omega) (by omega)
  have h := Any.bits_Mul64 Try.lays264 a b (by omega) (by omega) w
  rw [Nat.div_eq_of_lt (by omega), Nat.mod_eq_of_lt (by omega)] at h
  refine h.mono ?_
  rintro e w' ⟨rfl, rfl⟩
  exact ⟨by simp, rfl⟩
set_option maxRecDepth 100000 in
theorem times_any (v n : Int) (w : World) (h0 : 0 ≤ v) (h1 : v ≤ 1000) (h2 : 0 ≤ n) (h3 : n ≤ 1000) : Calls Try.prog 75 #[.int .i64 v, .int .u64 n] w fun e w' => e = .returned (.agg #[.bool false, .int .u64 0, .int .u64 (v * n)]) ∧ Lay w w' := by
  have t1 : decide (v < 0) = false := by simpa using h0
  have HM := Lib.hid (fun w => mul_any v n w h0 h1 h2 h3)
  obtain ⟨p, hp⟩ : ∃ p, v * n = p := ⟨_, rfl⟩
  rw [hp] at HM
  rw [hp]
  have hv1 : v ≤ 1000000 := by omega
  clear hp
  go_enter Try.func75, Try.ntmps75
  go_wp2_with fail
  refine (size_any v _ h0 hv1).mono ?_
  rintro e w' ⟨rfl, hw'⟩
  rw [hw']; clear hw' w'
  go_wp2_with fail
  refine (HM.out _).mono ?_
  rintro e w' ⟨rfl, hw'⟩
  rw [hw']; clear hw' w'
  go_wp2_with fail
  have h := alloc_last w (.cells #[.bool false, .int .u64 0, .int .u64 p] 139)
  have c0 : (w.alloc (.cells #[.bool false, .int .u64 0, .int .u64 p] 139)).cell? ⟨w.heap.size, 0, none⟩ = some (.bool false) := cell_of_blk h rfl
  have c1 : (w.alloc (.cells #[.bool false, .int .u64 0, .int .u64 p] 139)).cell? ⟨w.heap.size, 1, none⟩ = some (.int .u64 0) := cell_of_blk h rfl
  have c2 : (w.alloc (.cells #[.bool false, .int .u64 0, .int .u64 p] 139)).cell? ⟨w.heap.size, 2, none⟩ = some (.int .u64 p) := cell_of_blk h rfl
  exact bodyPost_ret (v := .agg #[.bool false, .int .u64 0, .int .u64 p]) (by simp [results, Try.results75, go_sem, c0, c1, c2]) rfl ⟨rfl, Lay.alloc _ _⟩
def wA (x : Int) : Value := .agg #[.bool false, .int .u64 0, .int .u64 x]
set_option maxRecDepth 100000 in
theorem order_any (x y : Int) (w : World) : Calls Try.prog 77 #[wA x, wA y] w fun e w' => e = .returned (.int .i64 (cmpI x y)) ∧ Lay w w' := by
  unfold wA
  by_cases h1 : x < y
  · have t1 : decide (x < y) = true := by simp [h1]
    rw [show cmpI x y = -1 by unfold cmpI; rw [if_pos h1]]
    clear h1
    go_enter Try.func77, Try.ntmps77
    go_wp2_with fail
    go_ret
    exact ⟨rfl, (Lay.alloc _ _).trans (Lay.alloc _ _)⟩
  · have t1 : decide (x < y) = false := by simp [h1]
    by_cases h2 : y < x
    · rw [show cmpI x y = 1 by unfold cmpI; rw [if_neg h1, if_pos h2]]
      have h3 : ¬ x = y := by omega
      clear h1 h2
      go_enter Try.func77, Try.ntmps77
      go_wp2_with fail
      go_ret
      exact ⟨rfl, (Lay.alloc _ _).trans (Lay.alloc _ _)⟩
    · obtain rfl : x = y := by omega
      rw [show cmpI x x = 0 by unfold cmpI; rw [if_neg h1, if_neg h1]]
      clear h1 h2
      go_enter Try.func77, Try.ntmps77
      go_wp2_with fail
      go_ret
      exact ⟨rfl, (Lay.alloc _ _).trans (Lay.alloc _ _)⟩
end Go.Proofs.Ytemeppfikpafbaa

