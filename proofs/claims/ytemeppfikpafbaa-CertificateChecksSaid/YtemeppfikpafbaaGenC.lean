/- Choices of all kinds: key, tick, number, arguments; rows of them; law17.mod (143). -/
import Derived.Test.YtemeppfikpafbaaNilB
import Derived.Test.YtemeppfikpafbaaBitL
namespace Go.Proofs.Ytemeppfikpafbaa
open Go.RowKit
structure Cg where
  k : K4
  t : Int
  d : Int
  l : List Int
instance : Inhabited Cg := ⟨⟨default, 0, 0, []⟩⟩
/-- A choice and its slice of arguments. -/
abbrev GV := Value × Cg
def gC (p : GV) : List Value := [.int .u8 p.2.k.kind, .int .i64 p.2.k.a, .int .i64 p.2.k.b, .int .i64 p.2.k.n, .int .i64 p.2.t, .int .i64 p.2.d, p.1]
theorem gC_len (p : GV) : (gC p).length = 7 := rfl
def gA (p : GV) : Value := .agg #[.int .u8 p.2.k.kind, .int .i64 p.2.k.a, .int .i64 p.2.k.b, .int .i64 p.2.k.n, .int .i64 p.2.t, .int .i64 p.2.d, p.1]
theorem infoG : (Try.prog.info? 113).map (fun i => (i.zero, i.size, i.bytes)) = some (some (.agg #[.int .u8 0, .int .i64 0, .int .i64 0, .int .i64 0, .int .i64 0, .int .i64 0, .slice none 0 0]), 7, 72) := by kernel_rfl
theorem infoN : (Try.prog.info? 2).map (fun i => (i.zero, i.size, i.bytes)) = some (some (.int .i64 0), 1, 8) := by kernel_rfl
def nC (n : Int) : List Value := [.int .i64 n]
theorem nC_len (n : Int) : (nC n).length = 1 := rfl
/-- The arguments of a choice, in blocks of S. -/
structure GArg (S : Nat → Prop) (w : World) (p : GV) : Prop where
  row : Row S w 1 p.2.l.length p.1 (flatC nC p.2.l)
  nil : NilA p.1
theorem GArg.mono {S S' : Nat → Prop} {w w' : World} {p : GV} (h : GArg S w p) (hS : ∀ b, S b → b < w.heap.size → S' b) (hw : ∀ b, S b → b < w.heap.size → w'.heap[b]? = w.heap[b]?) : GArg S' w' p :=
  ⟨(h.row.lt (by omega)).mono (fun b hb => hS b hb.1 hb.2) (fun b off x hb hc => by
    rw [← hc]; exact World.cell?_of_block (w := w) (a := ⟨b, off, none⟩) (hw b hb.1 hb.2)), h.nil⟩
theorem GArg.more {S : Nat → Prop} {w w' : World} {p : GV} (h : GArg S w p) (hm : More w w') : GArg S w' p := h.mono (fun _ hb _ => hb) (fun _ _ hl => hm.block hl)
/-- A list of choices that is being made. -/
structure AllG (N : Nat) (w : World) (v : Value) (l : List GV) : Prop where
  own : w.ownsRow N 113 7 v l.length (flatC gC l)
  ent : ∀ p ∈ l, GArg (fun b => v.ownBlock ≠ some b) w p
theorem AllG.nil (N : Nat) (w : World) : AllG N w (.slice none 0 0) [] := ⟨World.ownsRow_nil _ _ _ _, fun p h => by simp at h⟩
theorem AllG.more {N : Nat} {w w' : World} {v : Value} {l : List GV} (h : AllG N w v l) (hm : More w w') : AllG N w' v l :=
  ⟨owns_keep h.own (fun z hz => hm.block ((owns_shape h.own).choose_spec.choose_spec.2 z hz).2), fun p hp => (h.ent p hp).more hm⟩
theorem AllG.push {N : Nat} {w w' : World} {v v' : Value} {l : List GV} (h : AllG N w v l) {p : GV} (hp : GArg (fun b => v.ownBlock ≠ some b) w p)
    (hown : w'.ownsRow N 113 7 v' (l.length + 1) (flatC gC l ++ gC p)) (hg : w.grownBy w' v.ownBlock) (hv : ∀ z, v'.ownBlock = some z → v.ownBlock = some z ∨ w.heap.size ≤ z) : AllG N w' v' (l ++ [p]) := by
  have key : ∀ x : GV, GArg (fun b => v.ownBlock ≠ some b) w x → GArg (fun b => v'.ownBlock ≠ some b) w' x := fun x hx => hx.mono (fun b hb hl e => by
    rcases hv b e with h1 | h1
    · exact hb h1
    · omega) (fun b hb hl => hg.block b hl (fun e => hb e.symm))
  refine ⟨by rw [List.length_append, List.length_singleton, flatC_push]; exact hown, fun x hx => ?_⟩
  rcases List.mem_append.1 hx with h1 | h1
  · exact key x (h.ent x h1)
  · rw [List.mem_singleton] at h1; subst h1; exact key x hp
theorem tmod_mod {a n : Int} (hn : 0 < n) : ∃ r, Int.tmod a n = r ∧ -n < r ∧ r < n ∧ Int.tmod (r + n) n = a % n := by
  refine ⟨_, rfl, Int.lt_tmod_of_pos a hn, Int.tmod_lt_of_pos a hn, ?_⟩
  have h1 := Int.lt_tmod_of_pos a hn
  rw [Int.tmod_eq_emod_of_nonneg (by omega), Int.add_emod_right, Int.tmod_def, Int.sub_mul_emod_self_left]
theorem mod143_any (a n : Int) (w : World) (hn : 0 < n) (hn2 : n ≤ 1000) : Calls Try.prog 143 #[.int .i64 a, .int .i64 n] w fun e w' => e = .returned (.int .i64 (a % n)) ∧ w' = w := by
  obtain ⟨r, hr, h1, h2, h3⟩ := tmod_mod (a := a) hn
  have hs0 : 0 ≤ a % n := Int.emod_nonneg _ (by omega)
  have hs1 : a % n < n := Int.emod_lt_of_pos _ hn
  generalize a % n = s at *
  have hz : (n == 0) = false := beq_eq_false_iff_ne.2 (by omega)
  go_enter Try.func143, Try.ntmps143
  go_wp2_with fail
  go_ret
  exact ⟨rfl, rfl⟩
/-- What law17.Choices makes of a choice. -/
def mkB (kd b : Int) : Int := if kd = 1 ∨ kd = 5 ∨ kd = 6 ∨ kd = 7 then b % 3 else 0
def mkT (kd t : Int) : Int := if kd = 1 ∨ kd = 2 ∨ kd = 3 ∨ kd = 4 then t % 13 else 0
def mkD (kd d : Int) : Int := if kd = 2 then d % 2 else if kd = 3 then 1 + d % 3 else if kd = 6 ∨ kd = 9 then 1 + d % 5 else if kd = 7 then d % 4 else 0
def mkG (x : Cg) : Cg := ⟨⟨1 + x.k.kind % 9, x.k.a % 3, mkB (1 + x.k.kind % 9) x.k.b, x.k.n % 4⟩, mkT (1 + x.k.kind % 9) x.t, mkD (1 + x.k.kind % 9) x.d, if x.k.kind % 9 = 0 then x.l.take 2 else []⟩
/-- A valid choice. -/
def topB (kd : Int) : Int := if kd = 1 then 7 else if kd = 5 ∨ kd = 6 ∨ kd = 7 then 7 else 0
def topT (kd : Int) : Int := if kd = 1 ∨ kd = 2 ∨ kd = 3 ∨ kd = 4 then 200 else 0
def lowD (kd : Int) : Int := if kd = 3 ∨ kd = 6 ∨ kd = 9 then 1 else 0
def topD (kd : Int) : Int := if kd = 2 then 1 else if kd = 3 then 3 else if kd = 6 ∨ kd = 9 ∨ kd = 7 then 200 else 0
structure KeyOk (k : K4) : Prop where
  k0 : 1 ≤ k.kind
  k1 : k.kind ≤ 9
  a0 : 0 ≤ k.a
  a1 : k.a ≤ 7
  b0 : 0 ≤ k.b
  b1 : k.b ≤ topB k.kind
  n0 : 0 ≤ k.n
  n1 : k.n ≤ 65535
structure CgOk (x : Cg) : Prop where
  key : KeyOk x.k
  t0 : 0 ≤ x.t
  t1 : x.t ≤ topT x.k.kind
  d0 : lowD x.k.kind ≤ x.d
  d1 : x.d ≤ topD x.k.kind
  l : x.l.length ≤ (if x.k.kind = 1 then 4 else 0)
theorem mkG_ok (x : Cg) : CgOk (mkG x) := by
  obtain ⟨⟨kd, a, b, n⟩, t, d, l⟩ := x
  unfold mkG
  dsimp only
  have h1 : 0 ≤ kd % 9 := Int.emod_nonneg _ (by omega)
  have h2 : kd % 9 < 9 := Int.emod_lt_of_pos _ (by omega)
  have h0 : (if kd % 9 = 0 then l.take 2 else []).length ≤ (if 1 + kd % 9 = 1 then 4 else 0) := by
    by_cases h : kd % 9 = 0
    · rw [if_pos h, if_pos (by omega), List.length_take]; omega
    · rw [if_neg h, if_neg (by omega)]; exact Nat.le_refl _
  generalize kd % 9 = q at *
  have hq : q = 0 ∨ q = 1 ∨ q = 2 ∨ q = 3 ∨ q = 4 ∨ q = 5 ∨ q = 6 ∨ q = 7 ∨ q = 8 := by omega
  refine ⟨⟨?_, ?_, ?_, ?_, ?_, ?_, ?_, ?_⟩, ?_, ?_, ?_, ?_, h0⟩
  all_goals
    dsimp only
    clear h0
    rcases hq with rfl | rfl | rfl | rfl | rfl | rfl | rfl | rfl | rfl <;> (try simp (config := { decide := true }) only [mkB, mkT, mkD, topB, topT, lowD, topD, if_true, if_false]) <;> omega
end Go.Proofs.Ytemeppfikpafbaa
