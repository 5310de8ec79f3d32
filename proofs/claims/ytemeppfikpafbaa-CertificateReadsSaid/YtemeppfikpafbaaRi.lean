/- Texts BitL, GenC, AppG, laid together. -/
import Derived.Deep.RegionHeld3
import Derived.Deep.DeepCutAuto
import Derived.Test.YtemeppfikpafbaaRb
import Derived.Test.YtemeppfikpafbaaRh
/- Sets of choices and of messages by bits: plain laws of the cache. -/
namespace Go.Proofs.Ytemeppfikpafbaa
open Go.RowKit
/-- A choice without number and arguments. -/
structure Ch where
  k : K4
  t : Int
deriving DecidableEq
instance : Inhabited Ch := ⟨⟨default, 0⟩⟩
def chC (x : Ch) : List Value := [.int .u8 x.k.kind, .int .i64 x.k.a, .int .i64 x.k.b, .int .i64 x.k.n, .int .i64 x.t, .int .i64 0, .slice none 0 0]
theorem chC_len (x : Ch) : (chC x).length = 7 := rfl
def ltC (x y : Ch) : Prop := ltK x.k y.k
instance (x y : Ch) : Decidable (ltC x y) := by unfold ltC; infer_instance
def keyI (i : Nat) : K4 := ⟨4, (i % 4 : Nat), 0, (i / 4 : Nat)⟩
def chI (i : Nat) : Ch := ⟨keyI i, i⟩
def msgI (i : Nat) : M3 := ⟨(i % 3 : Nat), (i / 3 : Nat), 7⟩
theorem keyI_inj {i j : Nat} (h : keyI i = keyI j) : i = j := by
  simp only [keyI, K4.mk.injEq] at h
  obtain ⟨_, h1, _, h2⟩ := h
  have h1' : i % 4 = j % 4 := by exact_mod_cast h1
  have h2' : i / 4 = j / 4 := by exact_mod_cast h2
  omega
theorem msgI_inj {i j : Nat} (h : msgI i = msgI j) : i = j := by
  simp only [msgI, M3.mk.injEq] at h
  obtain ⟨h1, h2, _⟩ := h
  have h1' : i % 3 = j % 3 := by exact_mod_cast h1
  have h2' : i / 3 = j / 3 := by exact_mod_cast h2
  omega
theorem chI_inj {i j : Nat} (h : chI i = chI j) : i = j := keyI_inj (congrArg Ch.k h)
/-- The numbers whose bits are set, in a given order of numbers. -/
def pick (o : List Nat) (b : Nat) : List Nat := o.filter fun i => b.testBit i
def up16 : List Nat := [0, 1, 2, 3, 4, 5, 6, 7, 8, 9, 10, 11, 12, 13, 14, 15]
def down16 : List Nat := [15, 14, 13, 12, 11, 10, 9, 8, 7, 6, 5, 4, 3, 2, 1, 0]
def key16 : List Nat := [0, 4, 8, 12, 1, 5, 9, 13, 2, 6, 10, 14, 3, 7, 11, 15]
def msg16 : List Nat := [0, 3, 6, 9, 12, 15, 1, 4, 7, 10, 13, 2, 5, 8, 11, 14]
def ord16 (turned : Bool) : List Nat := if turned then down16 else up16
theorem mem_up16 (i : Nat) : i ∈ up16 ↔ i < 16 := by simp only [up16, List.mem_cons, List.not_mem_nil, or_false]; omega
theorem mem_down16 (i : Nat) : i ∈ down16 ↔ i < 16 := by simp only [down16, List.mem_cons, List.not_mem_nil, or_false]; omega
theorem mem_key16 (i : Nat) : i ∈ key16 ↔ i < 16 := by simp only [key16, List.mem_cons, List.not_mem_nil, or_false]; omega
theorem mem_msg16 (i : Nat) : i ∈ msg16 ↔ i < 16 := by simp only [msg16, List.mem_cons, List.not_mem_nil, or_false]; omega
theorem mem_ord16 (t : Bool) (i : Nat) : i ∈ ord16 t ↔ i < 16 := by
  cases t
  · exact mem_up16 i
  · exact mem_down16 i
theorem mem_pick {o : List Nat} {b i : Nat} (ho : ∀ i, i ∈ o ↔ i < 16) : i ∈ pick o b ↔ i < 16 ∧ b.testBit i = true := by
  unfold pick
  rw [List.mem_filter, ho]
/-- The choices by their keys; the messages in ascending order. -/
def setCh (b : Nat) : List Ch := (pick key16 b).map chI
def holdM (b : Nat) : List M3 := (pick msg16 b).map msgI
theorem setCh_asc (b : Nat) : (setCh b).Pairwise ltC := by
  unfold setCh pick
  rw [List.pairwise_map]
  refine List.Pairwise.filter _ ?_
  decide
theorem holdM_asc (b : Nat) : (holdM b).Pairwise ltM := by
  unfold holdM pick
  rw [List.pairwise_map]
  refine List.Pairwise.filter _ ?_
  decide
theorem mem_setCh {b : Nat} {x : Ch} : x ∈ setCh b ↔ ∃ i, i < 16 ∧ b.testBit i = true ∧ x = chI i := by
  unfold setCh
  rw [List.mem_map]
  constructor
  · rintro ⟨i, hi, rfl⟩
    obtain ⟨h1, h2⟩ := (mem_pick mem_key16).1 hi
    exact ⟨i, h1, h2, rfl⟩
  · rintro ⟨i, h1, h2, rfl⟩
    exact ⟨i, (mem_pick mem_key16).2 ⟨h1, h2⟩, rfl⟩
theorem mem_holdM {b : Nat} {x : M3} : x ∈ holdM b ↔ ∃ i, i < 16 ∧ b.testBit i = true ∧ x = msgI i := by
  unfold holdM
  rw [List.mem_map]
  constructor
  · rintro ⟨i, hi, rfl⟩
    obtain ⟨h1, h2⟩ := (mem_pick mem_msg16).1 hi
    exact ⟨i, h1, h2, rfl⟩
  · rintro ⟨i, h1, h2, rfl⟩
    exact ⟨i, (mem_pick mem_msg16).2 ⟨h1, h2⟩, rfl⟩
theorem chI_mem {b i : Nat} (hi : i < 16) : chI i ∈ setCh b ↔ b.testBit i = true := by
  rw [mem_setCh]
  constructor
  · rintro ⟨j, _, h, e⟩
    rw [chI_inj e]; exact h
  · intro h
    exact ⟨i, hi, h, rfl⟩
theorem setCh_len (b : Nat) : (setCh b).length ≤ 16 := by
  unfold setCh pick
  rw [List.length_map]
  exact Nat.le_trans (List.length_filter_le _ _) (by decide)
theorem holdM_len (b : Nat) : (holdM b).length ≤ 16 := by
  unfold holdM pick
  rw [List.length_map]
  exact Nat.le_trans (List.length_filter_le _ _) (by decide)
theorem pick_len {o : List Nat} (h : o.length = 16) (b : Nat) : (pick o b).length ≤ 16 := by
  unfold pick
  exact Nat.le_trans (List.length_filter_le _ _) (by omega)
theorem testBit_big {b i : Nat} (hb : b < 65536) (hi : 16 ≤ i) : b.testBit i = false := Nat.testBit_lt_two_pow (Nat.lt_of_lt_of_le hb (Nat.pow_le_pow_right (n := 2) (by omega) hi))
/-- One set is in another. -/
theorem sub_bits {a b : Nat} (ha : a < 65536) : (∀ x ∈ setCh a, x ∈ setCh b) ↔ a &&& b = a := by
  constructor
  · intro h
    apply Nat.eq_of_testBit_eq
    intro i
    rw [Nat.testBit_and]
    rcases Nat.lt_or_ge i 16 with hi | hi
    · cases e : a.testBit i with
      | false => rfl
      | true => rw [(chI_mem hi).1 (h _ ((chI_mem hi).2 e))]; rfl
    · rw [testBit_big ha hi]; rfl
  · intro h x hx
    obtain ⟨i, hi, h1, rfl⟩ := mem_setCh.1 hx
    rw [chI_mem hi]
    rw [← h, Nat.testBit_and] at h1
    exact (Bool.and_eq_true_iff.1 h1).2
theorem holdM_inj {a b : Nat} (ha : a < 65536) (hb : b < 65536) : holdM a = holdM b ↔ a = b := by
  constructor
  · intro h
    apply Nat.eq_of_testBit_eq
    intro i
    rcases Nat.lt_or_ge i 16 with hi | hi
    · rw [Bool.eq_iff_iff]
      have e : ∀ c : Nat, msgI i ∈ holdM c ↔ c.testBit i = true := fun c => by
        rw [mem_holdM]
        constructor
        · rintro ⟨j, _, h, e⟩
          rw [msgI_inj e]; exact h
        · intro h
          exact ⟨i, hi, h, rfl⟩
      rw [← e a, ← e b, h]
    · rw [testBit_big ha hi, testBit_big hb hi]
  · rintro rfl; rfl
/-- The keys of some choices, in some order, are those of the set. -/
theorem keyI_ok (i : Nat) (h : i < 16) : (keyI i).Ok := by
  have h1 : i % 4 < 4 := Nat.mod_lt _ (by omega)
  have h2 : i / 4 < 4 := by omega
  refine ⟨⟨by simp [keyI], by simp [keyI]⟩, ?_, ?_, ?_⟩ <;> unfold In64 <;> simp only [keyI] <;> omega
theorem ltC_irrefl (x : Ch) : ¬ ltC x x := ltK_irrefl _
theorem ltC_trans (x y z : Ch) : ltC x y → ltC y z → ltC x z := ltK_trans
end Go.Proofs.Ytemeppfikpafbaa

/- Choices of all kinds: key, tick, number, arguments; rows of them; law17.mod (143). -/
namespace Go.Proofs.Ytemeppfikpafbaa
open Go.RowKit
structure Cg where
  k : K4
  t : Int
  d : Int
  l : List Int
instance : Inhabited Cg := ⟨⟨default, 0, 0, []⟩⟩
/-- A choice and its slice of arguments. -/
abbrev GV := Value × Cg
def gC (p : GV) : List Value := [.int .u8 p.2.k.kind, .int .i64 p.2.k.a, .int .i64 p.2.k.b, .int .i64 p.2.k.n, .int .i64 p.2.t, .int .i64 p.2.d, p.1]
theorem gC_len (p : GV) : (gC p).length = 7 := rfl
def gA (p : GV) : Value := .agg #[.int .u8 p.2.k.kind, .int .i64 p.2.k.a, .int .i64 p.2.k.b, .int .i64 p.2.k.n, .int .i64 p.2.t, .int .i64 p.2.d, p.1]
theorem infoG : (Try.prog.info? 113).map (fun i => (i.zero, i.size, i.bytes)) = some (some (.agg #[.int .u8 0, .int .i64 0, .int .i64 0, .int .i64 0, .int .i64 0, .int .i64 0, .slice none 0 0]), 7, 72) := by kernel_rfl
theorem infoN : (Try.prog.info? 2).map (fun i => (i.zero, i.size, i.bytes)) = some (some (.int .i64 0), 1, 8) := by kernel_rfl
def nC (n : Int) : List Value := [.int .i64 n]
theorem nC_len (n : Int) : (nC n).length = 1 := rfl
/-- The arguments of a choice, in blocks of S. -/
structure GArg (S : Nat → Prop) (w : World) (p : GV) : Prop where
  row : Row S w 1 p.2.l.length p.1 (flatC nC p.2.l)
  nil : NilA p.1
theorem GArg.mono {S S' : Nat → Prop} {w w' : World} {p : GV} (h : GArg S w p) (hS : ∀ b, S b → b < w.heap.size → S' b) (hw : ∀ b, S b → b < w.heap.size → w'.heap[b]? = w.heap[b]?) : GArg S' w' p :=
  ⟨(h.row.lt (by omega)).mono (fun b hb => hS b hb.1 hb.2) (fun b off x hb hc => by
    rw [← hc]; exact World.cell?_of_block (w := w) (a := ⟨b, off, none⟩) (hw b hb.1 hb.2)), h.nil⟩
theorem GArg.more {S : Nat → Prop} {w w' : World} {p : GV} (h : GArg S w p) (hm : More w w') : GArg S w' p := h.mono (fun _ hb _ => hb) (fun _ _ hl => hm.block hl)
/-- A list of choices that is being made. -/
structure AllG (N : Nat) (w : World) (v : Value) (l : List GV) : Prop where
  own : w.ownsRow N 113 7 v l.length (flatC gC l)
  ent : ∀ p ∈ l, GArg (fun b => v.ownBlock ≠ some b) w p
theorem AllG.nil (N : Nat) (w : World) : AllG N w (.slice none 0 0) [] := ⟨World.ownsRow_nil _ _ _ _, fun p h => by simp at h⟩
theorem AllG.more {N : Nat} {w w' : World} {v : Value} {l : List GV} (h : AllG N w v l) (hm : More w w') : AllG N w' v l :=
  ⟨owns_keep h.own (fun z hz => hm.block ((owns_shape h.own).choose_spec.choose_spec.2 z hz).2), fun p hp => (h.ent p hp).more hm⟩
theorem AllG.push {N : Nat} {w w' : World} {v v' : Value} {l : List GV} (h : AllG N w v l) {p : GV} (hp : GArg (fun b => v.ownBlock ≠ some b) w p)
    (hown : w'.ownsRow N 113 7 v' (l.length + 1) (flatC gC l ++ gC p)) (hg : w.grownBy w' v.ownBlock) (hv : ∀ z, v'.ownBlock = some z → v.ownBlock = some z ∨ w.heap.size ≤ z) : AllG N w' v' (l ++ [p]) := by
  have key : ∀ x : GV, GArg (fun b => v.ownBlock ≠ some b) w x → GArg (fun b => v'.ownBlock ≠ some b) w' x := fun x hx => hx.mono (fun b hb hl e => by
    rcases hv b e with h1 | h1
    · exact hb h1
    · omega) (fun b hb hl => hg.block b hl (fun e => hb e.symm))
  refine ⟨by rw [List.length_append, List.length_singleton, flatC_push]; exact hown, fun x hx => ?_⟩
  rcases List.mem_append.1 hx with h1 | h1
  · exact key x (h.ent x h1)
  · rw [List.mem_singleton] at h1; subst h1; exact key x hp
theorem tmod_mod {a n : Int} (hn : 0 < n) : ∃ r, Int.tmod a n = r ∧ -n < r ∧ r < n ∧ Int.tmod (r + n) n = a % n := by
  refine ⟨_, rfl, Int.lt_tmod_of_pos a hn, Int.tmod_lt_of_pos a hn, ?_⟩
  have h1 := Int.lt_tmod_of_pos a hn
  rw [Int.tmod_eq_emod_of_nonneg (by omega), Int.add_emod_right, Int.tmod_def, Int.sub_mul_emod_self_left]
theorem mod143_any (a n : Int) (w : World) (hn : 0 < n) (hn2 : n ≤ 1000) : Calls Try.prog 143 #[.int .i64 a, .int .i64 n] w fun e w' => e = .returned (.int .i64 (a % n)) ∧ w' = w := by
  obtain ⟨r, hr, h1, h2, h3⟩ := tmod_mod (a := a) hn
  have hs0 : 0 ≤ a % n := Int.emod_nonneg _ (by omega)
  have hs1 : a % n < n := Int.emod_lt_of_pos _ hn
  generalize a % n = s at *
  have hz : (n == 0) = false := beq_eq_false_iff_ne.2 (by omega)
  go_enter Try.func143, Try.ntmps143
  go_wp2_with fail
  go_ret
  exact ⟨rfl, rfl⟩
/-- What law17.Choices makes of a choice. -/
def mkB (kd b : Int) : Int := if kd = 1 ∨ kd = 5 ∨ kd = 6 ∨ kd = 7 then b % 3 else 0
def mkT (kd t : Int) : Int := if kd = 1 ∨ kd = 2 ∨ kd = 3 ∨ kd = 4 then t % 13 else 0
def mkD (kd d : Int) : Int := if kd = 2 then d % 2 else if kd = 3 then 1 + d % 3 else if kd = 6 ∨ kd = 9 then 1 + d % 5 else if kd = 7 then d % 4 else 0
def mkG (x : Cg) : Cg := ⟨⟨1 + x.k.kind % 9, x.k.a % 3, mkB (1 + x.k.kind % 9) x.k.b, x.k.n % 4⟩, mkT (1 + x.k.kind % 9) x.t, mkD (1 + x.k.kind % 9) x.d, if x.k.kind % 9 = 0 then x.l.take 2 else []⟩
/-- A valid choice. -/
def topB (kd : Int) : Int := if kd = 1 then 7 else if kd = 5 ∨ kd = 6 ∨ kd = 7 then 7 else 0
def topT (kd : Int) : Int := if kd = 1 ∨ kd = 2 ∨ kd = 3 ∨ kd = 4 then 200 else 0
def lowD (kd : Int) : Int := if kd = 3 ∨ kd = 6 ∨ kd = 9 then 1 else 0
def topD (kd : Int) : Int := if kd = 2 then 1 else if kd = 3 then 3 else if kd = 6 ∨ kd = 9 ∨ kd = 7 then 200 else 0
structure KeyOk (k : K4) : Prop where
  k0 : 1 ≤ k.kind
  k1 : k.kind ≤ 9
  a0 : 0 ≤ k.a
  a1 : k.a ≤ 7
  b0 : 0 ≤ k.b
  b1 : k.b ≤ topB k.kind
  n0 : 0 ≤ k.n
  n1 : k.n ≤ 65535
structure CgOk (x : Cg) : Prop where
  key : KeyOk x.k
  t0 : 0 ≤ x.t
  t1 : x.t ≤ topT x.k.kind
  d0 : lowD x.k.kind ≤ x.d
  d1 : x.d ≤ topD x.k.kind
  l : x.l.length ≤ (if x.k.kind = 1 then 4 else 0)
theorem mkG_ok (x : Cg) : CgOk (mkG x) := by
  obtain ⟨⟨kd, a, b, n⟩, t, d, l⟩ := x
  unfold mkG
  dsimp only
  have h1 : 0 ≤ kd % 9 := Int.emod_nonneg _ (by omega)
  have h2 : kd % 9 < 9 := Int.emod_lt_of_pos _ (by omega)
  have h0 : (if kd % 9 = 0 then l.take 2 else []).length ≤ (if 1 + kd % 9 = 1 then 4 else 0) := by
    by_cases h : kd % 9 = 0
    · rw [if_pos h, if_pos (by omega), List.length_take]; omega
    · rw [if_neg h, if_neg (by omega)]; exact Nat.le_refl _
  generalize kd % 9 = q at *
  have hq : q = 0 ∨ q = 1 ∨ q = 2 ∨ q = 3 ∨ q = 4 ∨ q = 5 ∨ q = 6 ∨ q = 7 ∨ q = 8 := by omega
  refine ⟨⟨?_, ?_, ?_, ?_, ?_, ?_, ?_, ?_⟩, ?_, ?_, ?_, ?_, h0⟩
  all_goals
    dsimp only
    clear h0
    rcases hq with rfl | rfl | rfl | rfl | rfl | rfl | rfl | rfl | rfl <;> (try simp (config := { decide := true }) only [mkB, mkT, mkD, topB, topT, lowD, topD, if_true, if_false]) <;> omega
end Go.Proofs.Ytemeppfikpafbaa

/- Appends of any row, and list[:p], in the first seat's numbers. -/
namespace Go.Proofs.Ytemeppfikpafbaa
open Go.RowKit
theorem wp_append_rowC {w : World} {o : Oper} {a : Act} {K : Act → World → Prop} {Q : Exit → Act → World → Prop} (s x : Operand) (t : TypeId)
    (ho : o.op = .call { callee := .builtin .append, args := #[s, x], argTypes := #[t, t] })
    (base : Nat) (e : TypeId) (i : TypeInfo) (z : Value) (size bytes : Nat) (ht : Try.prog.underlying t = some (.slice e)) (hi : Try.prog.info? e = some i) (hz : i.zero = some z)
    (hsize : i.size = size) (hby : i.bytes = bytes) (hzs : z.cells.size = size) (hsz : 0 < size)
    (v : Value) (n : Nat) (xs : List Value) (hs : a.eval s = v) (hown : w.ownsRow base e size v n xs)
    (xv : Value) (m : Nat) (news : List Value) (hx : a.eval x = xv) (hrow : Row anyB w size m xv news) (hnil : NilA xv) (h1 : ∀ u ∈ news, u.oneCell' = true)
    (h63 : n + m ≤ maxLen) (hbytes : (n + m) * bytes ≤ 140737488355328) (hbase : base ≤ w.heap.size)
    (h : ∀ v' w', w'.ownsRow base e size v' (n + m) (xs ++ news) → w.grownBy w' v.ownBlock → K (a.put o.dst v') w') : o.wp Try.prog a w K Q := by
  obtain ⟨xa, xc, rfl, _⟩ := hrow.shape
  cases xa with
  | none =>
    obtain rfl := hnil _ _ rfl
    have hm : m = 0 := by
      rcases Nat.eq_zero_or_pos m with h0 | h0
      · exact h0
      · obtain ⟨_, _, he, _⟩ := hrow.at (by omega); cases he
    subst hm
    have hn : news = [] := List.length_eq_zero_iff.1 (by rw [hrow.1]; omega)
    subst hn
    have hrun := run_append_owned_none (P := Try.prog) (w := w) base t o.type e i size ht hi v n xs hown
    unfold Oper.wp
    simp [execOp, ho, resolve, invoke, builtin, hs, hx, hrun, Result.andThen]
    exact h v w (by simpa using hown) (World.grownBy.refl _ _)
  | some ta =>
    refine wp_append_own w s x t ho base e i z size bytes ht hi hz hsize hby hzs hsz v n xs hs hown ta m xc news hx hrow.1 (fun j u hj => ?_) h1 h63 hbytes hbase fun v' w' h2 h3 _ => h v' w' h2 h3
    have hne : m ≠ 0 := by
      intro e
      have : news = [] := List.length_eq_zero_iff.1 (by rw [hrow.1, e]; omega)
      rw [this] at hj; simp at hj
    obtain ⟨b2, off2, he, _, _, hc2⟩ := hrow.at hne
    cases he
    rw [Addr.add_lit]
    exact hc2 j u hj
theorem wpList_append_rowC {w : World} {ops : Array Oper} {rest : List Oper} {o : Oper} {a : Act} {Q : Exit → Act → World → Prop} (hgd : o.guard = none) (s x : Operand) (t : TypeId)
    (ho : o.op = .call { callee := .builtin .append, args := #[s, x], argTypes := #[t, t] })
    (base : Nat) (e : TypeId) (i : TypeInfo) (z : Value) (size bytes : Nat) (ht : Try.prog.underlying t = some (.slice e)) (hi : Try.prog.info? e = some i) (hz : i.zero = some z)
    (hsize : i.size = size) (hby : i.bytes = bytes) (hzs : z.cells.size = size) (hsz : 0 < size)
    (v : Value) (n : Nat) (xs : List Value) (hs : a.eval s = v) (hown : w.ownsRow base e size v n xs)
    (xv : Value) (m : Nat) (news : List Value) (hx : a.eval x = xv) (hrow : Row anyB w size m xv news) (hnil : NilA xv) (h1 : ∀ u ∈ news, u.oneCell' = true)
    (h63 : n + m ≤ maxLen) (hbytes : (n + m) * bytes ≤ 140737488355328) (hbase : base ≤ w.heap.size)
    (h : ∀ v' w', w'.ownsRow base e size v' (n + m) (xs ++ news) → w.grownBy w' v.ownBlock → wpList Try.prog ops Q rest (a.put o.dst v') w') : wpList Try.prog ops Q (o :: rest) a w :=
  wpList_plain hgd fun _ hK => wp_append_rowC s x t ho base e i z size bytes ht hi hz hsize hby hzs hsz v n xs hs hown xv m news hx hrow hnil h1 h63 hbytes hbase fun v' w' h2 h3 => hK _ _ (h v' w' h2 h3)
theorem step_append_rowC {w : World} {ops : Array Oper} {o : Oper} {a : Act} {K : Act → World → Prop} {Q : Exit → Act → World → Prop} {E : Prop} (hgd : o.guard = none) (s x : Operand) (t : TypeId)
    (ho : o.op = .call { callee := .builtin .append, args := #[s, x], argTypes := #[t, t] })
    (base : Nat) (e : TypeId) (i : TypeInfo) (z : Value) (size bytes : Nat) (ht : Try.prog.underlying t = some (.slice e)) (hi : Try.prog.info? e = some i) (hz : i.zero = some z)
    (hsize : i.size = size) (hby : i.bytes = bytes) (hzs : z.cells.size = size) (hsz : 0 < size)
    (v : Value) (n : Nat) (xs : List Value) (hs : a.eval s = v) (hown : w.ownsRow base e size v n xs)
    (xv : Value) (m : Nat) (news : List Value) (hx : a.eval x = xv) (hrow : Row anyB w size m xv news) (hnil : NilA xv) (h1 : ∀ u ∈ news, u.oneCell' = true)
    (h63 : n + m ≤ maxLen) (hbytes : (n + m) * bytes ≤ 140737488355328) (hbase : base ≤ w.heap.size)
    (h : ∀ v' w', w'.ownsRow base e size v' (n + m) (xs ++ news) → w.grownBy w' v.ownBlock → K (a.put o.dst v') w') : if Region.wanted o (yielded ops a.tmps) = true then Oper.wp Try.prog o a w K Q else E := by
  have hw : Region.wanted o (yielded ops a.tmps) = true := by simp [Region.wanted, hgd]
  rw [if_pos hw]
  exact wp_append_rowC s x t ho base e i z size bytes ht hi hz hsize hby hzs hsz v n xs hs hown xv m news hx hrow hnil h1 h63 hbytes hbase h
/-- list[:p] of arguments. -/
theorem take111 {S : Nat → Prop} {w : World} {a : Option Addr} {n cap p : Nat} {l : List Int} (hp : p ≤ n) (hl : l.length = n) (h : Row S w 1 n (.slice a n cap) (flatC nC l)) (hn : NilA (.slice a n cap)) :
    (∀ W, (Instr.slice 111 (.slice a n cap) none (some (.int .i64 (p : Int))) none).run Try.prog W = .ok (.slice a p cap) W) ∧ Row S w 1 (l.take p).length (.slice a p cap) (flatC nC (l.take p)) ∧ NilA (.slice a p cap) := by
  obtain ⟨_, _, e0, hc⟩ := h.shape
  cases e0
  have htl : (l.take p).length = p := by rw [List.length_take, hl]; omega
  rw [htl, flatC_take nC_len]
  rcases a with _ | a
  · obtain rfl := hn _ _ rfl
    obtain rfl : n = 0 := by omega
    obtain rfl : p = 0 := by omega
    have hl0 : l = [] := List.length_eq_zero_iff.1 hl
    subst hl0
    exact ⟨fun W => by simp [go_sem, sliced], Row.nil _ _ _ _ _, fun n d e => by cases e; rfl⟩
  · by_cases hn0 : n = 0
    · subst hn0
      obtain rfl : p = 0 := by omega
      have hl0 : l = [] := List.length_eq_zero_iff.1 hl
      subst hl0
      exact ⟨fun W => by simp [go_sem, sliced], Row.nil _ _ _ _ _, fun n d e => by cases e⟩
    · obtain ⟨b, off, hab, _⟩ := h.at hn0
      cases hab
      exact ⟨fun W => by simp [go_sem, sliced]; omega, h.take hp, fun n d e => by cases e⟩
theorem nC_one (l : List Int) : ∀ u ∈ flatC nC l, u.oneCell' = true := by
  intro u hu
  unfold flatC at hu
  obtain ⟨x, _, hx⟩ := List.mem_flatMap.1 hu
  simp only [nC, List.mem_cons, List.not_mem_nil, or_false] at hx
  subst hx; rfl
end Go.Proofs.Ytemeppfikpafbaa

