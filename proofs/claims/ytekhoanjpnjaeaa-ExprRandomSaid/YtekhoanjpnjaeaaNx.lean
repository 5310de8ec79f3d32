/- Texts MkK, MkL, MkU, laid together. -/
import Derived.Test.YtekhoanjpnjaeaaNp
import Derived.Test.YtekhoanjpnjaeaaNu
import Derived.Test.YtekhoanjpnjaeaaNw
/- Helpers of the arms that draw their order: a held fact is made stronger; cells carried over calls; the maker's arities opened; numbers with its row; append of a row of trees. -/
namespace Go.Proofs.Ytekhoanjpnjaeaa
open Go.RowKit
section
variable {P : Program} {ops : Array Oper} {Q : Exit → Act → World → Prop} {md : Region.Mode} {S S' : World → Prop} {p : Nat}
theorem wpAnyP_str (hS : ∀ W, S' W → S W) : ∀ {fuel : Nat} {listed : Array Bool} {a : Act} {w : World}, wpAnyP P md ops Q S' p fuel listed a w → wpAnyP P md ops Q S p fuel listed a w
  | 0, _, _, _, h => h
  | _ + 1, _, _, _, h => ⟨h.1, fun i hi => wpOp_mono (fun _ w' h' => ⟨fun hp => hS w' (h'.1 hp), wpAnyP_str hS h'.2⟩) (h.2 i hi)⟩
end
theorem cell_grown {w w' : World} {MB : Nat} {x : Addr} {u : Value} (hx : x.block ≠ MB) (hg : w.grownBy w' (some MB)) (h : w.cell? x = some u) : w'.cell? x = some u := by
  rw [World.cell?_of_block (hg.block x.block (World.block_lt_of_cell? w x h) (fun e => by injection e with e; exact hx e))]; exact h
theorem MkAt.c34 {W : World} {MB : Nat} {d : MkD} {prm left : Int} {l : List Int} (h : MkAt W MB d prm left l) : W.cell? ⟨MB, 3, none⟩ = some (.int .i64 d.own) ∧ W.cell? ⟨MB, 4, none⟩ = some d.ar := by
  obtain ⟨a, cap, h1, _⟩ := h.ex
  exact ⟨by simp [World.cell?, h1, mkC], by simp [World.cell?, h1, mkC]⟩
def abcB (j : Nat) : ByteArray := if j = 0 then ⟨#[97]⟩ else if j = 1 then ⟨#[98]⟩ else ⟨#[99]⟩
theorem abc_cell {w : World} {B j : Nat} (h : w.heap[B]? = some (.cells #[.string ⟨#[97]⟩, .string ⟨#[98]⟩, .string ⟨#[99]⟩] 9)) (hj : j < 3) : w.cell? ⟨B, j, none⟩ = some (.string (abcB j)) := by
  have h3 : j = 0 ∨ j = 1 ∨ j = 2 := by omega
  rcases h3 with rfl | rfl | rfl <;> simp [World.cell?, h] <;> rfl
theorem name_cell {w : World} {B : Nat} {c n r : Nat} {v : Value} (h : w.ownsRow B 9 1 v n ((namesL c n).map .string)) (hr : r < n) : ∃ b cap, v = .slice (some ⟨b, 0, none⟩) n cap ∧ B ≤ b ∧ w.cell? ⟨b, r, none⟩ = some (.string (nmB c r)) := by
  obtain ⟨g, cap, hv, hB, hc⟩ := owns_cell h (j := r) (u := .string (nmB c r)) (by unfold namesL; simp [hr])
  exact ⟨g, cap, hv, hB, hc⟩
/-- A row of trees. -/
theorem rep_of_owns {B e n : Nat} {v : Value} {ts : List Ex} {cs : List Value} {S : Nat → Prop} {W : World} {D : Nat} (ho : W.ownsRow B e 4 v n (flat .i64 ts cs)) (hn : n = ts.length) (hl : cs.length = ts.length) (hS : ∀ z, B ≤ z → S z) (hc : ∀ i (h : i < ts.length), Flds .i64 ts[i] ∧ ∃ c, cs[i]? = some c ∧ RepS .i64 S W D ts[i].args c) : RepS .i64 S W (D + 1) ts v := by
  subst hn
  obtain ⟨a, cap, rfl, _⟩ := owns_shape ho
  refine ⟨a, cap, rfl, fun hne => ?_⟩
  have h0 : 0 < ts.length := by cases ts with | nil => exact absurd rfl hne | cons _ _ => simp
  obtain ⟨g, cap', hv, hB, _⟩ := owns_cell ho (flat_get .i64 ts cs hl 0 h0).1
  simp only [Value.slice.injEq] at hv
  obtain ⟨rfl, _, rfl⟩ := hv
  refine ⟨g, 0, rfl, hS g hB, fun i hi => ?_⟩
  obtain ⟨f0, f1, f2, f3⟩ := flat_get .i64 ts cs hl i hi
  obtain ⟨hf, c, hci, hr⟩ := hc i hi
  have hcell : ∀ {j : Nat} {u : Value}, (flat .i64 ts cs)[j]? = some u → W.cell? ⟨g, 0 + j, none⟩ = some u := by
    intro j u hj
    obtain ⟨g', cap'', hv', _, hc'⟩ := owns_cell ho hj
    simp only [Value.slice.injEq, Option.some.injEq, Addr.mk.injEq, and_true, true_and] at hv'
    obtain ⟨rfl, rfl⟩ := hv'
    rw [Nat.zero_add]; exact hc'
  exact ⟨hcell f0, hcell f1, hcell f2, hf, c, hcell (f3.trans hci), hr⟩
theorem flat_ones (k : IntKind) : ∀ (ts : List Ex) (cs : List Value), (∀ c ∈ cs, ∃ a n m, c = .slice a n m) → ∀ u ∈ flat k ts cs, u.oneCell' = true
  | [], _, _, u, hu => by simp [flat] at hu
  | _ :: _, [], _, u, hu => by simp [flat] at hu
  | t :: ts, c :: cs, h, u, hu => by
    simp only [flat, List.mem_cons] at hu
    rcases hu with rfl | rfl | rfl | rfl | hu
    · rfl
    · rfl
    · rfl
    · obtain ⟨a, n, m, rfl⟩ := h _ List.mem_cons_self; rfl
    · exact flat_ones k ts cs (fun x hx => h x (List.mem_cons_of_mem _ hx)) u hu
theorem Grow.slices {_ty B d : Nat} {w : World} {sv : Value} {ts : List Ex} {cs : List Value} (hl : cs.length = ts.length) (h : ∀ i (h : i < ts.length), Flds .i64 ts[i] ∧ ∃ c, cs[i]? = some c ∧ RepS .i64 (fun x => B ≤ x ∧ sv.ownBlock ≠ some x) w d ts[i].args c) : ∀ c ∈ cs, ∃ a n m, c = .slice a n m := by
  intro c hc
  obtain ⟨i, hi, rfl⟩ := List.getElem_of_mem hc
  obtain ⟨_, c', hc', hr⟩ := h i (by omega)
  obtain ⟨a, cap, rfl⟩ := hr.shape
  rw [List.getElem?_eq_getElem hi] at hc'
  injection hc' with hc'
  exact ⟨_, _, _, hc'⟩
set_option maxRecDepth 100000 in
/-- append of a row of trees to one tree's row. -/
theorem step_append_trees {w : World} {ops : Array Oper} {o : Oper} {a : Act} {K : Act → World → Prop} {Q : Exit → Act → World → Prop} {E : Prop} (hgd : o.guard = none) (s x : Operand)
    (ho : o.op = .call { callee := .builtin .append, args := #[s, x], argTypes := #[34, 34] })
    (base : Nat) (v : Value) (n : Nat) (xs : List Value) (hs : a.eval s = v) (hown : w.ownsRow base 36 4 v n xs)
    (B2 m : Nat) (xv : Value) (news : List Value) (hx : a.eval x = xv) (hrow : w.ownsRow B2 36 4 xv m news) (h1 : ∀ u ∈ news, u.oneCell' = true)
    (h63 : n + m ≤ 1000) (hbase : base ≤ w.heap.size)
    (h : ∀ v' w', w'.ownsRow base 36 4 v' (n + m) (xs ++ news) → w.grownBy w' v.ownBlock → K (a.put o.dst v') w') : if Region.wanted o (yielded ops a.tmps) = true then Oper.wp Try.prog o a w K Q else E := by
  have hw : Region.wanted o (yielded ops a.tmps) = true := by simp [Region.wanted, hgd]
  rw [if_pos hw]
  obtain ⟨i0, hi0, hz0, hz1, hz2⟩ := info_parts Try.info36
  obtain ⟨xa, xc, rfl, _⟩ := owns_shape hrow
  cases xa with
  | none =>
    have hm : m = 0 ∧ xc = 0 := by
      rcases hrow.2 with ⟨e, _⟩ | ⟨g, cap, cur, e, _⟩
      · injection e with _ e1 e2; exact ⟨e1, e2⟩
      · injection e with e1; cases e1
    obtain ⟨rfl, rfl⟩ := hm
    have hn : news = [] := List.length_eq_zero_iff.1 (by rw [hrow.1, Nat.zero_mul])
    subst hn
    have hrun := run_append_owned_none (P := Try.prog) (w := w) base 34 o.type 36 i0 4 Try.underlying34 hi0 v n xs hown
    unfold Oper.wp
    simp [execOp, ho, resolve, invoke, builtin, hs, hx, hrun, Result.andThen]
    exact h v w (by simpa using hown) (World.grownBy.refl _ _)
  | some ta =>
    refine wp_append_own w s x 34 ho base 36 i0 _ 4 56 Try.underlying34 hi0 hz0 hz1 hz2 rfl (by omega) v n xs hs hown ta m xc news hx hrow.1 (fun j u hj => ?_) h1 (by unfold maxLen; omega) (by omega) hbase fun v' w' h2 h3 _ => h v' w' h2 h3
    obtain ⟨g, cap, hv, _, hc⟩ := owns_cell hrow hj
    injection hv with hv
    injection hv with hv
    subst hv
    rw [Addr.add_lit, Nat.zero_add]
    exact hc
theorem owns_lit {W : World} {B e n size base : Nat} {cs : Array Value} (h : W.heap[B]? = some (.cells cs e)) (hb : base ≤ B) (hs : cs.size = n * size) (hn : n ≤ maxLen) : W.ownsRow base e size (.slice (some ⟨B, 0, none⟩) n n) n cs.toList :=
  ⟨by rw [Array.length_toList]; exact hs, .inr ⟨B, n, cs, rfl, hb, h, Nat.le_refl _, hn, hs, by rw [← hs, ← Array.length_toList, List.take_length]⟩⟩
theorem each_mono {S S' : Nat → Prop} {w w' : World} {D : Nat} {ts : List Ex} {cs : List Value} (h : ∀ i (h : i < ts.length), Flds .i64 ts[i] ∧ ∃ c, cs[i]? = some c ∧ RepS .i64 S w D ts[i].args c) (hw : ∀ b off u, S b → w.cell? ⟨b, off, none⟩ = some u → S' b ∧ w'.cell? ⟨b, off, none⟩ = some u) :
    ∀ i (h : i < ts.length), Flds .i64 ts[i] ∧ ∃ c, cs[i]? = some c ∧ RepS .i64 S' w' D ts[i].args c := fun i hi => by
  obtain ⟨h1, c, h2, h3⟩ := h i hi
  exact ⟨h1, c, h2, h3.mono2 hw (Nat.le_refl _)⟩
theorem each_cons {S : Nat → Prop} {w : World} {D : Nat} {t : Ex} {ts : List Ex} {c : Value} {cs : List Value} (hf : Flds .i64 t) (hr : RepS .i64 S w D t.args c) (h : ∀ i (h : i < ts.length), Flds .i64 ts[i] ∧ ∃ c, cs[i]? = some c ∧ RepS .i64 S w D ts[i].args c) :
    ∀ i (h : i < (t :: ts).length), Flds .i64 (t :: ts)[i] ∧ ∃ e, (c :: cs)[i]? = some e ∧ RepS .i64 S w D (t :: ts)[i].args e := fun i hi => by
  cases i with
  | zero => exact ⟨hf, c, rfl, hr⟩
  | succ i => simpa using h i (by simpa using hi)
theorem cons_all {P : Ex → Prop} {t : Ex} {ts : List Ex} (h : P t) (hs : ∀ x ∈ ts, P x) : ∀ x ∈ t :: ts, P x := fun x hx => by
  rcases List.mem_cons.1 hx with e | hx
  · rw [e]; exact h
  · exact hs x hx
/-- A row of arities with a member in sight. -/
theorem ArRow.at {W : World} {MB : Nat} {v : Value} (h : ArRow W MB v) : ∃ b off m c, v = .slice (some ⟨b, off, none⟩) m c ∧ 1 ≤ m ∧ m ≤ 3 ∧ b < MB ∧ ∀ i, i < m → ∃ x : Nat, W.cell? ⟨b, off + i, none⟩ = some (.int .i64 (x : Int)) ∧ x ≤ 2 := by
  obtain ⟨b, off, m, c, h0, h1, h2, h3, h4⟩ := h
  refine ⟨b, off, m, c, h0, h1, h2, h3, fun i hi => ?_⟩
  obtain ⟨x, hx, h5, h6⟩ := h4 i hi
  exact ⟨x.toNat, by rw [Int.toNat_of_nonneg h5]; exact hx, by omega⟩
end Go.Proofs.Ytekhoanjpnjaeaa

/- Rows of structs, each with a property that only reads; rows of the call's own that grow; what a fleet's statements, handlers, versions and components are. No program in sight. -/
namespace Go.Proofs.Ytekhoanjpnjaeaa
open Go.RowKit
abbrev PRd := (Nat → Prop) → World → List Value → Prop
/-- A property that is kept wherever its cells are. -/
def PRd.Keep (P : PRd) : Prop := ∀ (S S' : Nat → Prop) (W W' : World) (l : List Value), (∀ b off u, S b → W.cell? ⟨b, off, none⟩ = some u → S' b ∧ W'.cell? ⟨b, off, none⟩ = some u) → P S W l → P S' W' l
/-- A slice of at most N structs of that many cells. -/
def RowOf (size N : Nat) (P : PRd) (S : Nat → Prop) (W : World) (v : Value) : Prop :=
  ∃ ls : List (List Value), Row S W size ls.length v ls.flatten ∧ ls.length ≤ N ∧ (∀ l ∈ ls, l.length = size) ∧ ∀ l ∈ ls, P S W l
theorem RowOf.keep {size N : Nat} {P : PRd} (hp : P.Keep) (hz : 0 < size) {S S' : Nat → Prop} {W W' : World} {v : Value} (hw : ∀ b off u, S b → W.cell? ⟨b, off, none⟩ = some u → S' b ∧ W'.cell? ⟨b, off, none⟩ = some u) (h : RowOf size N P S W v) : RowOf size N P S' W' v := by
  obtain ⟨ls, h1, h2, h3, h4⟩ := h
  exact ⟨ls, h1.mono2 hz hw, h2, h3, fun l hl => hp S S' W W' l hw (h4 l hl)⟩
theorem flat_at {size : Nat} : ∀ (ls : List (List Value)), (∀ l ∈ ls, l.length = size) → ∀ (i : Nat) (hi : i < ls.length) (j : Nat), j < size → ls.flatten[i * size + j]? = (ls[i])[j]?
  | l :: ls, h, 0, _, j, hj => by
    rw [Nat.zero_mul, Nat.zero_add, List.flatten_cons, List.getElem?_append_left (by rw [h l List.mem_cons_self]; exact hj)]
    rfl
  | l :: ls, h, i + 1, hi, j, hj => by
    have hl := h l List.mem_cons_self
    rw [List.flatten_cons, List.getElem?_append_right (by rw [hl, Nat.add_mul]; omega)]
    rw [show (i + 1) * size + j - l.length = i * size + j by rw [hl, Nat.add_mul]; omega]
    exact flat_at ls (fun x hx => h x (List.mem_cons_of_mem _ hx)) i (by simpa using hi) j hj
theorem flat_len {size : Nat} : ∀ (ls : List (List Value)), (∀ l ∈ ls, l.length = size) → ls.flatten.length = ls.length * size
  | [], _ => by simp
  | l :: ls, h => by
    rw [List.flatten_cons, List.length_append, flat_len ls (fun x hx => h x (List.mem_cons_of_mem _ hx)), h l List.mem_cons_self, List.length_cons, Nat.add_mul]; omega
/-- The elements of such a slice. -/
theorem RowOf.at {size N : Nat} {P : PRd} {S : Nat → Prop} {W : World} {v : Value} (h : RowOf size N P S W v) : ∃ a n cap, v = .slice a n cap ∧ n ≤ N ∧ (0 < n → ∃ b off, a = some ⟨b, off, none⟩ ∧ S b ∧ ∀ i, i < n → ∃ l : List Value, l.length = size ∧ P S W l ∧ ∀ j u, l[j]? = some u → W.cell? ⟨b, off + i * size + j, none⟩ = some u) := by
  obtain ⟨ls, h1, h2, h3, h4⟩ := h
  obtain ⟨a, cap, rfl, _⟩ := h1.shape
  refine ⟨a, ls.length, cap, rfl, h2, fun hn => ?_⟩
  obtain ⟨b, off, rfl, _, hS, hc⟩ := h1.at (by omega)
  refine ⟨b, off, rfl, hS, fun i hi => ⟨ls[i], h3 _ (List.getElem_mem hi), h4 _ (List.getElem_mem hi), fun j u hj => ?_⟩⟩
  have hjs : j < size := by have := (List.getElem?_eq_some_iff.1 hj).1; rw [h3 _ (List.getElem_mem hi)] at this; exact this
  have := hc (i * size + j) u (by rw [flat_at ls h3 i hi j hjs]; exact hj)
  rwa [← Nat.add_assoc] at this
/-- A row of the call's own from block B on; what its elements point to lies from B on too, in other blocks. -/
def OwnOf (ty : TypeId) (size : Nat) (P : PRd) (B : Nat) (w : World) (sv : Value) (n : Nat) : Prop :=
  ∃ ls : List (List Value), ls.length = n ∧ w.ownsRow B ty size sv n ls.flatten ∧ (∀ l ∈ ls, l.length = size) ∧ ∀ l ∈ ls, P (fun x => B ≤ x ∧ sv.ownBlock ≠ some x) w l
section
variable {ty size : Nat} {P : PRd} {B : Nat} {w w' : World} {sv : Value} {n : Nat}
theorem OwnOf.nil : OwnOf ty size P B w (.slice none 0 0) 0 := ⟨[], rfl, ⟨by simp, Or.inl ⟨rfl, rfl⟩⟩, fun _ h => absurd h List.not_mem_nil, fun _ h => absurd h List.not_mem_nil⟩
theorem OwnOf.shape (h : OwnOf ty size P B w sv n) : ∃ a cap, sv = .slice a n cap ∧ (∀ x, sv.ownBlock = some x → B ≤ x ∧ x < w.heap.size) := by
  obtain ⟨_, _, ho, _⟩ := h
  exact owns_shape ho
theorem OwnOf.keep (hp : P.Keep) (h : OwnOf ty size P B w sv n) (hb : ∀ x, B ≤ x → x < w.heap.size → w'.heap[x]? = w.heap[x]?) : OwnOf ty size P B w' sv n := by
  obtain ⟨ls, hl, ho, hs, hc⟩ := h
  obtain ⟨a, cap, _, hx⟩ := owns_shape ho
  refine ⟨ls, hl, owns_keep ho (fun x hx' => hb x (hx x hx').1 (hx x hx').2), hs, fun s hs => hp _ _ _ _ _ (fun b o u h1 h2 => ⟨h1, ?_⟩) (hc s hs)⟩
  rw [World.cell?_of_block (w := w) (hb b h1.1 (cell_lt h2))]; exact h2
/-- What the append's law asks, and what to do with what it leaves. -/
theorem OwnOf.open (hp : P.Keep) (h : OwnOf ty size P B w sv n) :
    ∃ xs, w.ownsRow B ty size sv n xs ∧ ∀ (w1 : World) (g cap H : Nat) (cs : List Value),
      w1.ownsRow B ty size (.slice (some ⟨g, 0, none⟩) (n + 1) cap) (n + 1) (xs ++ cs) → w.grownBy w1 sv.ownBlock → (sv.ownBlock = some g ∨ g = H) → w.heap.size ≤ H → cs.length = size →
      P (fun x => B ≤ x ∧ sv.ownBlock ≠ some x) w cs → OwnOf ty size P B w1 (.slice (some ⟨g, 0, none⟩) (n + 1) cap) (n + 1) := by
  obtain ⟨ls, hl, ho, hs, hc⟩ := h
  refine ⟨ls.flatten, ho, fun w1 g cap H cs ho1 hg hat hH hsz hs1 => ?_⟩
  have hmono : ∀ {s : List Value}, P (fun x => B ≤ x ∧ sv.ownBlock ≠ some x) w s → P (fun x => B ≤ x ∧ (Value.slice (some ⟨g, 0, none⟩) (n + 1) cap).ownBlock ≠ some x) w1 s := by
    intro s h
    refine hp _ _ _ _ _ (fun x o u hx hu => ?_) h
    have hne : (Value.slice (some ⟨g, 0, none⟩) (n + 1) cap).ownBlock ≠ some x := by
      intro e
      have e' : g = x := by simpa [Value.ownBlock] using e
      rcases hat with hat | hat
      · exact hx.2 (by rw [hat, e'])
      · have := cell_lt hu; omega
    refine ⟨⟨hx.1, hne⟩, ?_⟩
    rw [World.cell?_of_block (w := w) (a := ⟨x, o, none⟩) (hg.block x (cell_lt hu) (fun e => hx.2 e.symm))]; exact hu
  refine ⟨ls ++ [cs], by simp [hl], ?_, fun l h => ?_, fun s h => ?_⟩
  · rw [List.flatten_append, List.flatten_singleton]; exact ho1
  · rcases List.mem_append.1 h with h | h
    · exact hs l h
    · rw [List.mem_singleton] at h; rw [h]; exact hsz
  · rcases List.mem_append.1 h with h | h
    · exact hmono (hc s h)
    · rw [List.mem_singleton] at h; rw [h]; exact hmono hs1
theorem OwnOf.row (hp : P.Keep) {N : Nat} (h : OwnOf ty size P B w sv n) (hn : n ≤ N) : RowOf size N P (fun x => B ≤ x) w sv := by
  obtain ⟨ls, rfl, ho, hs, hc⟩ := h
  exact ⟨ls, Row.of_owns ho, hn, hs, fun l hl => hp _ _ _ _ _ (fun b o u h1 h2 => ⟨h1.1, h2⟩) (hc l hl)⟩
end
theorem stmtC_keep : PRd.Keep StmtC := fun _ _ _ _ _ hw h => h.keep hw
def StmtsAt := RowOf 6 12 StmtC
/-- A handler's cells. -/
def HandC : PRd := fun S W l => ∃ s a n c v, l = [.string s, .slice a n c, v] ∧ StmtsAt S W v
theorem handC_keep : PRd.Keep HandC := fun _ _ _ _ _ hw h => by
  obtain ⟨s, a, n, c, v, rfl, hv⟩ := h
  exact ⟨s, a, n, c, v, rfl, hv.keep stmtC_keep (by decide) hw⟩
def HandsAt := RowOf 3 3 HandC
/-- A version: one cell, a slice of handlers. -/
def VerC : PRd := fun S W l => ∃ v, l = [v] ∧ HandsAt S W v
theorem verC_keep : PRd.Keep VerC := fun _ _ _ _ _ hw h => by
  obtain ⟨v, rfl, hv⟩ := h
  exact ⟨v, rfl, hv.keep handC_keep (by decide) hw⟩
def VersAt := RowOf 1 2 VerC
/-- A component's cells. -/
def CompC : PRd := fun S W l => ∃ s a n c v, l = [.string s, .slice a n c, v] ∧ VersAt S W v
theorem compC_keep : PRd.Keep CompC := fun _ _ _ _ _ hw h => by
  obtain ⟨s, a, n, c, v, rfl, hv⟩ := h
  exact ⟨s, a, n, c, v, rfl, hv.keep verC_keep (by decide) hw⟩
def CompsAt := RowOf 3 3 CompC
theorem BRow.stmts {B : Nat} {w : World} {sv : Value} {n : Nat} (h : BRow B w sv n) (hn : n ≤ 12) : StmtsAt (fun x => B ≤ x) w sv := by
  obtain ⟨ss, rfl, ho, hc⟩ := h
  exact ⟨ss, Row.of_owns ho, hn, fun l hl => by obtain ⟨_, _, _, _, _, _, _, rfl, _⟩ := hc l hl; rfl, fun l hl => (hc l hl).keep (fun b o u h1 h2 => ⟨h1.1, h2⟩)⟩
end Go.Proofs.Ytekhoanjpnjaeaa

/- (*maker).handlers (107). -/
namespace Go.Proofs.Ytekhoanjpnjaeaa
open Go.RowKit
/-- A slice that may be cut: nil, or at a block, or empty. -/
def PlainZ (a : Option Addr) (n c : Nat) : Prop := PlainA a c ∨ (n = 0 ∧ ∃ t, a = some t)
/-- A slice of bytes, all of whose cells lie in blocks of S. -/
def BytesAt (S : Nat → Prop) (W : World) (v : Value) : Prop := ∃ a n c bs, v = .slice a n c ∧ bs.length = n ∧ PlainZ a n c ∧ Row S W 1 n v (bV bs) ∧ ∀ b ∈ bs, 0 ≤ b ∧ b ≤ 255
/-- The plan of a handler: its cells; the bytes lie before block MB. -/
def CodeC (MB : Nat) : PRd := fun S W l => ∃ p v, l = [.int .u8 p, v] ∧ 0 ≤ p ∧ p ≤ 255 ∧ BytesAt (fun b => S b ∧ b < MB) W v
theorem codeC_keep (MB : Nat) : PRd.Keep (CodeC MB) := fun S S' W W' l hw h => by
  obtain ⟨p, v, rfl, h0, h1, a, n, c, bs, rfl, hl, hp, hr, hb⟩ := h
  exact ⟨p, _, rfl, h0, h1, a, n, c, bs, rfl, hl, hp, hr.mono2 (by decide) (fun b off u hS hc => ⟨⟨(hw b off u hS.1 hc).1, hS.2⟩, (hw b off u hS.1 hc).2⟩), hb⟩
/-- The maker's own row of arities, of at least k numbers. -/
def OwnAr (W : World) (MB : Nat) (d : MkD) (k : Nat) : Prop :=
  ∃ ab ao an ac rb ro rm rc on, d.ar = .slice (some ⟨ab, ao, none⟩) an ac ∧ d.own = ((on : Nat) : Int) ∧ on < an ∧ ab < MB ∧ W.cell? ⟨ab, ao + on, none⟩ = some (.slice (some ⟨rb, ro, none⟩) rm rc) ∧ rb < MB ∧ k ≤ rm ∧ ∀ i, i < rm → ∃ x : Nat, W.cell? ⟨rb, ro + i, none⟩ = some (.int .i64 (x : Int)) ∧ x ≤ 2
theorem slice80_to (a : Option Addr) (n cap p : Nat) (hpn : p ≤ n) (hp : p ≤ cap) (hnil : PlainZ a n cap) : ∀ w, (Instr.slice 80 (.slice a n cap) none (some (.int .i64 (p : Int))) none).run Try.prog w = .ok (.slice a p cap) w := by
  intro w
  rcases hnil with (⟨rfl, rfl⟩ | ⟨b, off, rfl⟩) | ⟨rfl, t, rfl⟩
  · obtain rfl : p = 0 := by omega
    simp [go_sem, sliced]
  · simp [go_sem, sliced]
    omega
  · obtain rfl : p = 0 := by omega
    simp [go_sem, sliced]
theorem least_nat (n m : Nat) (w : World) : Calls Try.prog 104 #[.int .i64 (n : Int), .int .i64 (m : Int)] w fun e w' => e = .returned (.int .i64 ((min n m : Nat) : Int)) ∧ w' = w :=
  (least_any n m w).mono fun e w' ⟨h1, h2⟩ => ⟨by rw [h1]; congr 2; split <;> omega, h2⟩
theorem MkAt.c56 {W : World} {MB : Nat} {d : MkD} {prm left : Int} {l : List Int} (h : MkAt W MB d prm left l) : W.cell? ⟨MB, 5, none⟩ = some (.int .i64 prm) ∧ W.frozen? ⟨MB, 5, none⟩ = false ∧ (∃ a cap, W.cell? ⟨MB, 6, none⟩ = some (.slice a l.length cap)) ∧ W.frozen? ⟨MB, 6, none⟩ = false := by
  obtain ⟨a, cap, h1, _⟩ := h.ex
  exact ⟨by simp [World.cell?, h1, mkC], thaw h1 5, ⟨a, cap, by simp [World.cell?, h1, mkC]⟩, thaw h1 6⟩
theorem bV_take (l : List Int) (k : Nat) : bV (l.take k) = (bV l).take k := by unfold bV; rw [List.map_take]
/-- New bytes for a maker. -/
theorem MkAt.bytes {w : World} {MB : Nat} {d : MkD} {prm left : Int} {l r : List Int} {a : Option Addr} {c : Nat} (h : MkAt w MB d prm left l) (hr : Row (fun b => b < MB) w 1 r.length (.slice a r.length c) (bV r)) (hy : ∀ b ∈ r, 0 ≤ b ∧ b ≤ 255) (hl : r.length ≤ 1000000) :
    MkAt (w.setCell ⟨MB, 6, none⟩ (.slice a r.length c)) MB d prm left r ∧ w.grownBy (w.setCell ⟨MB, 6, none⟩ (.slice a r.length c)) (some MB) := by
  obtain ⟨a', cap', h1, _⟩ := h.ex
  exact MkAt.set h1 hr hy hl
theorem row_takeB {S : Nat → Prop} {w : World} {a : Option Addr} {n c p : Nat} {bs : List Int} (hl : bs.length = n) (hp : p ≤ n) (h : Row S w 1 n (.slice a n c) (bV bs)) : Row S w 1 (bs.take p).length (.slice a (bs.take p).length c) (bV (bs.take p)) := by
  have e : (bs.take p).length = p := by rw [List.length_take]; omega
  rw [e, bV_take]
  have := h.take hp
  simpa using this
theorem Try.info126s : (Try.prog.info? 126).map (fun i => (i.zero, i.size, i.bytes)) = some (some (.agg #[.string ⟨#[]⟩, .slice none 0 0, .slice none 0 0]), 3, 64) := by kernel_rfl
set_option maxRecDepth 100000 in
set_option maxHeartbeats 4000000 in
theorem handlers_any (hbs : BodySaid 3) (MB : Nat) (d : MkD) (prm left : Int) (l : List Int) (ca : Option Addr) (n cc : Nat) (w : World) (h : MkAt w MB d prm left l) (hd : d.Ok prm) (hfl : 0 ≤ d.flags ∧ d.flags ≤ 2) (har : ArOk w MB d) (how : OwnAr w MB d n) (hn3 : n ≤ 3) (hc : RowOf 2 maxLen (CodeC MB) (fun b => b ≠ MB) w (.slice ca n cc)) :
    Calls Try.prog 107 #[.pointer (some ⟨MB, 0, none⟩), .slice ca n cc] w fun e w' => ∃ v prm' left' l', e = .returned v ∧ HandsAt (fun x => w.heap.size ≤ x) w' v ∧ MkAt w' MB d prm' left' l' ∧ d.Ok prm' ∧ w.grownBy w' (some MB) := by
  have HBS := Lib.hid hbs
  have HM0 := Lib.hid h
  have HD0 := Lib.hid hd
  have HFG := Lib.hid hfl
  have HAR := Lib.hid har
  have HN3 := Lib.hid hn3
  have HLT := Lib.hid h.lt
  obtain ⟨ab, ao, an, ac, rb, ro, rm, rc, on, hda, hon, hoa, hab, hrc, hrb, hkr, hxs⟩ := how
  have HDA := Lib.hid hda
  have HON := Lib.hid hon
  have HOA := Lib.hid hoa
  have HAB := Lib.hid hab
  have HRC := Lib.hid hrc
  have HRB := Lib.hid hrb
  have HKR := Lib.hid hkr
  have HXS := Lib.hid hxs
  have HC := Lib.hid (show 0 < n → ∃ b off, ca = some ⟨b, off, none⟩ ∧ b ≠ MB ∧ ∀ i, i < n → ∃ l : List Value, l.length = 2 ∧ CodeC MB (fun b => b ≠ MB) w l ∧ ∀ j u, l[j]? = some u → w.cell? ⟨b, off + i * 2 + j, none⟩ = some u from by
    obtain ⟨a, n', cap, e, _, k⟩ := hc.at
    injection e with e1 e2 e3
    subst e1 e2 e3
    exact k)
  clear hbs h hd hfl har hn3 hda hon hoa hab hrc hrb hkr hxs hc
  obtain ⟨i0, hi0, hz0, hz1, hz2⟩ := info_parts Try.info126s
  go_enter Try.func107, Try.ntmps107
  go_wp2_with fail
  go_loopw [5, 10] (fun sv i wr => ∃ (k : Nat) (pr lf : Int) (bl : List Int), k ≤ n ∧ i = .int .i64 k ∧ Hid (OwnOf 126 3 HandC w.heap.size wr sv k) ∧ Hid (MkAt wr MB d pr lf bl) ∧ Hid (d.Ok pr) ∧ Hid (w.grownBy wr (some MB))) (fun _ i _ => n - (intOf i).toNat)
  case atStart => exact ⟨0, prm, left, l, Nat.zero_le _, rfl, Lib.hid OwnOf.nil, HM0, HD0, Lib.hid ⟨rfl, rfl, rfl, Nat.le_refl _, fun _ _ _ => rfl⟩⟩
  case round =>
    obtain ⟨k, pr, lf, bl, hk, rfl, HO, HM1, HD1, HG1⟩ := hrel
    obtain ⟨w1, rfl⟩ : ∃ wo : World, wo = wr := ⟨_, rfl⟩
    obtain ⟨oa, oc, rfl, hown⟩ := HO.out.shape
    have HOW := Lib.hid hown
    clear hown
    by_cases hlt : k < n
    · skip
      have hkn : (k : Int) < (n : Int) := by omega
      obtain ⟨cb, co, rfl, hcb, hcs⟩ := HC.out (by omega)
      obtain ⟨lc, hlc, ⟨cp, cv, rfl, hp0, hp1, ba, bn, bc, bs, rfl, hbl, hbp, hbr, hby⟩, hcell⟩ := hcs k hlt
      have HBP := Lib.hid hbp
      have HBR := Lib.hid hbr
      have HBY := Lib.hid hby
      have HBL := Lib.hid hbl
      have HP := Lib.hid (And.intro hp0 hp1)
      have e0 : w1.cell? ⟨cb, co + k * 2, none⟩ = some (.int .u8 cp) := cell_grown hcb HG1.out (hcell 0 _ rfl)
      have e1 : w1.cell? ⟨cb, co + k * 2 + 1, none⟩ = some (.slice ba bn bc) := cell_grown hcb HG1.out (hcell 1 _ rfl)
      have hbe := cell_lt e0
      have HCB := Lib.hid (show cb ≠ MB from hcb)
      clear hcs hlc hp0 hp1 hbl hbp hbr hby hcell hcb
      obtain ⟨xn, hxc, hx2⟩ := HXS.out k (by have := HKR.out; omega)
      have HXC := Lib.hid hxc
      have HX2 := Lib.hid hx2
      clear hxc hx2
      have HLK := Lib.hid hlt
      have HK3 := Lib.hid (show k < 3 from by have := HN3.out; omega)
      have HA2 := Lib.hid (more_allocD w1 (.cells #[.int .u8 cp, .slice ba bn bc] 205))
      have HX2B := Lib.hid (alloc_last w1 (.cells #[.int .u8 cp, .slice ba bn bc] 205))
      obtain ⟨XB, HXE⟩ : ∃ B, Hid (B = w1.heap.size) := ⟨_, Lib.hid rfl⟩
      rw [← HXE.out] at HX2B
      have HXM := Lib.hid (show MB < XB from by have h1 := HM1.out.lt; have := HXE.out; omega)
      have HM2 := Lib.hid (HM1.out.more HA2.out)
      have HG2 := Lib.hid (grow_trans HG1.out (grow_more HA2.out))
      have HO2 := Lib.hid (HO.out.keep handC_keep (w' := w1.alloc (.cells #[.int .u8 cp, .slice ba bn bc] 205)) (fun z _ hz => HA2.out.block hz))
      go_upto_region 5 with fail
      try rw [← HXE.out]
      generalize w1.alloc (.cells #[.int .u8 cp, .slice ba bn bc] 205) = w2 at *
      clear e0 e1 hbe
      have HDR := Lib.hid (more_drew w2)
      refine wp_region_heldP (S := fun W => W.cell? ⟨MB, 3, none⟩ = some (.int .i64 (on : Int)) ∧ W.cell? ⟨MB, 4, none⟩ = some (.slice (some ⟨ab, ao, none⟩) an ac) ∧ W.cell? ⟨ab, ao + on, none⟩ = some (.slice (some ⟨rb, ro, none⟩) rm rc) ∧ W.cell? ⟨rb, ro + k, none⟩ = some (.int .i64 (xn : Int))) 16 (by kernel_rfl) ?_
      generalize w2.drew = w90 at *
      have HM90 := Lib.hid (HM2.out.more HDR.out)
      have HG90 := Lib.hid (grow_trans HG2.out (grow_more HDR.out))
      have HX90 := Lib.hid ((HDR.out.block (blk_ltD HX2B.out)).trans HX2B.out)
      have HO90 := Lib.hid (HO2.out.keep handC_keep (fun z _ hz => HDR.out.block hz))
      have HK90 := Lib.hid (show w90.cell? ⟨MB, 3, none⟩ = some (.int .i64 (on : Int)) ∧ w90.cell? ⟨MB, 4, none⟩ = some (.slice (some ⟨ab, ao, none⟩) an ac) ∧ w90.cell? ⟨ab, ao + on, none⟩ = some (.slice (some ⟨rb, ro, none⟩) rm rc) ∧ w90.cell? ⟨rb, ro + k, none⟩ = some (.int .i64 (xn : Int)) from ⟨by have h := HM90.out.c34.1; rw [HON.out] at h; exact h, by have h := HM90.out.c34.2; rw [HDA.out] at h; exact h, cell_grown (Nat.ne_of_lt HAB.out) HG90.out HRC.out, cell_grown (Nat.ne_of_lt HRB.out) HG90.out HXC.out⟩)
      have hs1 := cell_lt HK90.out.1
      have hs2 := cell_lt HK90.out.2.2.1
      have hs3 := cell_lt HK90.out.2.2.2
      have hll : (on : Int) < (an : Int) := by have := HOA.out; omega
      have hll2 : on < an := HOA.out
      have hlm : (k : Int) < (rm : Int) := by have := HKR.out; omega
      have hlm2 : k < rm := by have := HKR.out; omega
      refine tkS (i := 0) (v := ?_) (by simp only [opA, op0]; exact rfl) (by kernel_rfl) (by kernel_rfl) HK90.out ?_ ?_
      rotate_left
      · intro w hS
        (try dsimp only at hS); first | (go_simp; done) | (go_simp; with_reducible rfl)
      (try simp only [ptS, stA, st0, stS])
      refine tkS (i := 1) (v := ?_) (by simp only [opA, opS, op0]; exact rfl) (by kernel_rfl) (by kernel_rfl) HK90.out ?_ ?_
      rotate_left
      · intro w hS
        (try dsimp only at hS); first | (go_simp; done) | (go_simp; with_reducible rfl)
      (try simp only [ptS, stA, st0, stS])
      refine tkS (i := 2) (v := ?_) (by simp only [opA, opS, op0]; exact rfl) (by kernel_rfl) (by kernel_rfl) HK90.out ?_ ?_
      rotate_left
      · intro w hS
        (try dsimp only at hS); first | (go_simp; done) | (go_simp; with_reducible rfl)
      (try simp only [ptS, stA, st0, stS])
      refine tkS (i := 3) (v := ?_) (by simp only [opA, opS, op0]; exact rfl) (by kernel_rfl) (by kernel_rfl) HK90.out ?_ ?_
      rotate_left
      · intro w hS
        (try dsimp only at hS); first | (go_simp; done) | (go_simp; with_reducible rfl)
      (try simp only [ptS, stA, st0, stS])
      refine tkS (i := 4) (v := ?_) (by simp only [opA, opS, op0]; exact rfl) (by kernel_rfl) (by kernel_rfl) HK90.out ?_ ?_
      rotate_left
      · intro w hS
        (try dsimp only at hS); first | (go_simp; done) | (go_simp; with_reducible rfl)
      (try simp only [ptS, stA, st0, stS])
      refine tkS (i := 5) (v := ?_) (by simp only [opA, opS, op0]; exact rfl) (by kernel_rfl) (by kernel_rfl) HK90.out ?_ ?_
      rotate_left
      · intro w hS
        (try dsimp only at hS); first | (go_simp; done) | (go_simp; with_reducible rfl)
      (try simp only [ptS, stA, st0, stS])
      refine tkS (i := 6) (v := ?_) (by simp only [opA, opS, op0]; exact rfl) (by kernel_rfl) (by kernel_rfl) HK90.out ?_ ?_
      rotate_left
      · intro w hS
        (try dsimp only at hS); first | (go_simp; done) | (go_simp; with_reducible rfl)
      (try simp only [ptS, stA, st0, stS])
      refine tkS (i := 7) (v := ?_) (by simp only [opA, opS, op0]; exact rfl) (by kernel_rfl) (by kernel_rfl) HK90.out ?_ ?_
      rotate_left
      · intro w hS
        (try dsimp only at hS); first | (go_simp; done) | (go_simp; with_reducible rfl)
      (try simp only [ptS, stA, st0, stS])
      refine tkS (i := 8) (v := ?_) (by simp only [opA, opS, op0]; exact rfl) (by kernel_rfl) (by kernel_rfl) HK90.out ?_ ?_
      rotate_left
      · intro w hS
        (try dsimp only at hS); first | (go_simp; done) | (go_simp; with_reducible rfl)
      (try simp only [ptS, stA, st0, stS])
      refine tkS (i := 9) (v := ?_) (by simp only [opA, opS, op0]; exact rfl) (by kernel_rfl) (by kernel_rfl) HK90.out ?_ ?_
      rotate_left
      · intro w hS
        (try dsimp only at hS); first | (go_simp; done) | (go_simp; with_reducible rfl)
      (try simp only [ptS, stA, st0, stS])
      refine tkS (i := 10) (v := ?_) (by simp only [opA, opS, op0]; exact rfl) (by kernel_rfl) (by kernel_rfl) HK90.out ?_ ?_
      rotate_left
      · intro w hS
        (try dsimp only at hS); first | (go_simp; done) | (go_simp; with_reducible rfl)
      (try simp only [ptS, stA, st0, stS])
      refine tkS (i := 11) (v := ?_) (by simp only [opA, opS, op0]; exact rfl) (by kernel_rfl) (by kernel_rfl) HK90.out ?_ ?_
      rotate_left
      · intro w hS
        (try dsimp only at hS); first | (go_simp; done) | (go_simp; with_reducible rfl)
      (try simp only [ptS, stA, st0, stS])
      refine tkS (i := 12) (v := ?_) (by simp only [opA, opS, op0]; exact rfl) (by kernel_rfl) (by kernel_rfl) HK90.out ?_ ?_
      rotate_left
      · intro w hS
        (try dsimp only at hS); first | (go_simp; done) | (go_simp; with_reducible rfl)
      (try simp only [ptS, stA, st0, stS])
      refine tkS (i := 13) (v := ?_) (by simp only [opA, opS, op0]; exact rfl) (by kernel_rfl) (by kernel_rfl) HK90.out ?_ ?_
      rotate_left
      · intro w hS
        (try dsimp only at hS); first | (go_simp; done) | (go_simp; with_reducible rfl)
      (try simp only [ptS, stA, st0, stS])
      refine tkW (i := 14) (v := ?_) (by simp only [opA, opS, op0]; exact rfl) (by kernel_rfl) (by kernel_rfl) (fun _ => HK90.out) ?_ ?_
      rotate_left
      · intro w hS
        first | (go_simp; done) | (go_simp; with_reducible rfl)
      (try simp only [ptS, stA, st0, stS])
      refine tkS (i := 15) (v := ?_) (by simp only [opA, opS, op0]; exact rfl) (by kernel_rfl) (by kernel_rfl) HK90.out ?_ ?_
      rotate_left
      · intro w hS
        (try dsimp only at hS); first | (go_simp; done) | (go_simp; with_reducible rfl)
      (try simp only [ptS, stA, st0, stS])
      refine wpAnyP_ready (rs := [16]) (by kernel_rfl) (by simp) ?_
      refine (AllReadyP.cons (by simp only [opA, opS, op0]; exact rfl) (fun K hK => ?_) AllReadyP.nil)
      rw [if_pos (by kernel_rfl)]
      obtain ⟨g5, f5, _, _⟩ := HM90.out.c56
      go_simp
      refine hK.out _ _ (gone (by kernel_rfl)) ?_
      clear hK K
      (try simp only [ptN])
      refine wpAnyP_done (by kernel_rfl) ?_ _
      have HSP := Lib.hid (HM90.out.setPrm (xn : Int))
      have HM3 := Lib.hid HSP.out.1
      have HG3 := Lib.hid (grow_trans HG90.out HSP.out.2)
      have HO3 := Lib.hid (HO90.out.keep handC_keep (fun z hz1 hz2 => HSP.out.2.block z hz2 (fun e => by have := HLT.out; injection e with e; omega)))
      have HX3 := Lib.hid ((HSP.out.2.block XB (blk_ltD HX90.out) (fun e => by have := HXM.out; injection e with e; omega)).trans HX90.out)
      have HSZ3 := Lib.hid HSP.out.2.size
      have HD3 := Lib.hid (show d.Ok (xn : Int) from ⟨HD1.out.i0, HD1.out.i1, HD1.out.t0, by omega, by have := HX2.out; omega⟩)
      clear hs1 hs2 hs3 hll hll2 hlm hlm2
      try clear g5 f5
      go_upto_region 6 with fail
      generalize w90.setCell ⟨MB, 5, none⟩ (.int .i64 (xn : Int)) = w3 at *
      have HDR3 := Lib.hid (more_drew w3)
      refine wp_region_heldP (S := fun W => W.cell? ⟨XB, 1, none⟩ = some (.slice ba bn bc)) 10 (by kernel_rfl) ?_
      generalize w3.drew = w4 at *
      have HM4 := Lib.hid (HM3.out.more HDR3.out)
      have HG4 := Lib.hid (grow_trans HG3.out (grow_more HDR3.out))
      have HX4 := Lib.hid ((HDR3.out.block (blk_ltD HX3.out)).trans HX3.out)
      have HO4 := Lib.hid (HO3.out.keep handC_keep (fun z _ hz => HDR3.out.block hz))
      have HK4 := Lib.hid (show w4.cell? ⟨XB, 1, none⟩ = some (.slice ba bn bc) from by simp [World.cell?, HX4.out])
      have hs1 := cell_lt HK4.out
      obtain ⟨q, HQ⟩ : ∃ q, Hid (min bn 40 = q) := ⟨_, Lib.hid rfl⟩
      have HLS := Lib.hid (least_nat bn 40 w4)
      rw [HQ.out] at HLS
      have HQB := Lib.hid (show q ≤ bn ∧ q ≤ 40 from by have := HQ.out; omega)
      have hcapb : bn ≤ bc := by obtain ⟨_, _, e, h⟩ := HBR.out.shape; cases e; exact h
      have hsl := slice80_to ba bn bc q HQB.out.1 (by have := HQB.out; omega) HBP.out
      refine tkS (i := 0) (v := ?_) (by simp only [opA, op0]; exact rfl) (by kernel_rfl) (by kernel_rfl) HK4.out ?_ ?_
      rotate_left
      · intro w hS
        (try dsimp only at hS); first | (go_simp; done) | (go_simp; with_reducible rfl)
      (try simp only [ptS, stA, st0, stS])
      refine tkS (i := 1) (v := ?_) (by simp only [opA, opS, op0]; exact rfl) (by kernel_rfl) (by kernel_rfl) HK4.out ?_ ?_
      rotate_left
      · intro w hS
        (try dsimp only at hS); first | (go_simp; done) | (go_simp; with_reducible rfl)
      (try simp only [ptS, stA, st0, stS])
      refine tkS (i := 2) (v := ?_) (by simp only [opA, opS, op0]; exact rfl) (by kernel_rfl) (by kernel_rfl) HK4.out ?_ ?_
      rotate_left
      · intro w hS
        (try dsimp only at hS); first | (go_simp; done) | (go_simp; with_reducible rfl)
      (try simp only [ptS, stA, st0, stS])
      refine tkS (i := 3) (v := ?_) (by simp only [opA, opS, op0]; exact rfl) (by kernel_rfl) (by kernel_rfl) HK4.out ?_ ?_
      rotate_left
      · intro w hS
        (try dsimp only at hS); first | (go_simp; done) | (go_simp; with_reducible rfl)
      (try simp only [ptS, stA, st0, stS])
      refine tkS (i := 4) (v := ?_) (by simp only [opA, opS, op0]; exact rfl) (by kernel_rfl) (by kernel_rfl) HK4.out ?_ ?_
      rotate_left
      · intro w hS
        (try dsimp only at hS); first | (go_simp; done) | (go_simp; with_reducible rfl)
      (try simp only [ptS, stA, st0, stS])
      refine tkS (i := 5) (v := ?_) (by simp only [opA, opS, op0]; exact rfl) (by kernel_rfl) (by kernel_rfl) HK4.out ?_ ?_
      rotate_left
      · intro w hS
        (try dsimp only at hS); first | (go_simp; done) | (go_simp; with_reducible rfl)
      (try simp only [ptS, stA, st0, stS])
      refine wpAnyP_ready (rs := [6]) (by kernel_rfl) (by simp) ?_
      refine (AllReadyP.cons (by simp only [opA, opS, op0]; exact rfl) (fun K hK => ?_) AllReadyP.nil)
      rw [if_pos (by kernel_rfl)]
      go_simp
      refine HLS.out.mono ?_
      rintro e wA ⟨rfl, hwA⟩
      have hwA := hwA.symm
      subst hwA
      try go_wp2_with fail
      refine hK.out _ _ (fun _ => HK4.out) ?_
      clear hK K
      (try simp only [ptS, stA, st0, stS])
      refine tkS (i := 7) (v := ?_) (by simp only [opA, opS, op0]; exact rfl) (by kernel_rfl) (by kernel_rfl) HK4.out ?_ ?_
      rotate_left
      · intro w hS
        (try dsimp only at hS); first | (go_simp; done) | (go_simp; with_reducible rfl)
      (try simp only [ptS, stA, st0, stS])
      refine tkW (i := 8) (v := ?_) (by simp only [opA, opS, op0]; exact rfl) (by kernel_rfl) (by kernel_rfl) (fun _ => HK4.out) ?_ ?_
      rotate_left
      · intro w hS
        first | (go_simp; done) | (go_simp; with_reducible rfl)
      (try simp only [ptS, stA, st0, stS])
      refine tkS (i := 9) (v := ?_) (by simp only [opA, opS, op0]; exact rfl) (by kernel_rfl) (by kernel_rfl) HK4.out ?_ ?_
      rotate_left
      · intro w hS
        (try dsimp only at hS); first | (go_simp; done) | (go_simp; with_reducible rfl)
      (try simp only [ptS, stA, st0, stS])
      refine wpAnyP_ready (rs := [10]) (by kernel_rfl) (by simp) ?_
      refine (AllReadyP.cons (by simp only [opA, opS, op0]; exact rfl) (fun K hK => ?_) AllReadyP.nil)
      rw [if_pos (by kernel_rfl)]
      obtain ⟨_, _, ⟨ga, gc, g6⟩, f6⟩ := HM4.out.c56
      have hs6 := cell_lt g6
      go_simp
      refine hK.out _ _ (gone (by kernel_rfl)) ?_
      clear hK K
      (try simp only [ptN])
      refine wpAnyP_done (by kernel_rfl) ?_ _
      have HTK := Lib.hid (show (bs.take q).length = q from by have h1 := HQB.out; have h2 := HBL.out; rw [List.length_take]; omega)
      have HSB := HM4.out.bytes (r := bs.take q) (a := ba) (c := bc) (row_takeB HBL.out HQB.out.1 (HBR.out.mono2 (by decide) (fun b off u hb hc => ⟨hb.2, cell_grown (Nat.ne_of_lt hb.2) HG4.out hc⟩))) (fun b hb => HBY.out b (List.mem_of_mem_take hb)) (by have h1 := HTK.out; have h2 := HQB.out; omega)
      rw [HTK.out] at HSB
      have HSB := Lib.hid HSB
      have HM5 := Lib.hid HSB.out.1
      have HG5 := Lib.hid (grow_trans HG4.out HSB.out.2)
      have HO5 := Lib.hid (HO4.out.keep handC_keep (fun z hz1 hz2 => HSB.out.2.block z hz2 (fun e => by have := HLT.out; injection e with e; omega)))
      clear hs1 hsl hcapb
      try clear g6 f6 hs6
      go_upto_region 7 with fail
      generalize w4.setCell ⟨MB, 6, none⟩ (.slice ba q bc) = w5 at *
      obtain ⟨g7, f7⟩ := HM5.out.c7
      have hs7 := cell_lt g7
      go_upto_region 8 with fail
      have HSL := Lib.hid (HM5.out.setLeft 12)
      have HM6 := Lib.hid HSL.out.1
      have HG6 := Lib.hid (grow_trans HG5.out HSL.out.2)
      have HO6 := Lib.hid (HO5.out.keep handC_keep (fun z hz1 hz2 => HSL.out.2.block z hz2 (fun e => by have := HLT.out; injection e with e; omega)))
      clear g7 f7 hs7
      generalize w5.setCell ⟨MB, 7, none⟩ (.int .i64 12) = w6 at *
      have HDR6 := Lib.hid (more_drew w6)
      refine wp_region_heldP (S := fun W => W.cell? ⟨MB, 5, none⟩ = some (.int .i64 (xn : Int))) 15 (by kernel_rfl) ?_
      generalize w6.drew = w7 at *
      have HM7 := Lib.hid (HM6.out.more HDR6.out)
      have HG7 := Lib.hid (grow_trans HG6.out (grow_more HDR6.out))
      have HO7 := Lib.hid (HO6.out.keep handC_keep (fun z _ hz => HDR6.out.block hz))
      have HK7 := Lib.hid (show w7.cell? ⟨MB, 5, none⟩ = some (.int .i64 (xn : Int)) from HM7.out.c56.1)
      have hs7 := cell_lt HK7.out
      have hk3 : k < 3 := HK3.out
      have hk3i : (k : Int) < 3 := by omega
      refine tkS (i := 0) (v := ?_) (by simp only [opA, op0]; exact rfl) (by kernel_rfl) (by kernel_rfl) HK7.out ?_ ?_
      rotate_left
      · intro w hS
        (try dsimp only at hS); first | (go_simp; done) | (go_simp; with_reducible rfl)
      (try simp only [ptS, stA, st0, stS])
      refine tkS (i := 2) (v := ?_) (by simp only [opA, opS, op0]; exact rfl) (by kernel_rfl) (by kernel_rfl) HK7.out ?_ ?_
      rotate_left
      · intro w hS
        (try dsimp only at hS); first | (go_simp; done) | (go_simp; with_reducible rfl)
      (try simp only [ptS, stA, st0, stS])
      refine tkS (i := 5) (v := ?_) (by simp only [opA, opS, op0]; exact rfl) (by kernel_rfl) (by kernel_rfl) HK7.out ?_ ?_
      rotate_left
      · intro w hS
        (try dsimp only at hS); first | (go_simp; done) | (go_simp; with_reducible rfl)
      (try simp only [ptS, stA, st0, stS])
      refine tkS (i := 6) (v := ?_) (by simp only [opA, opS, op0]; exact rfl) (by kernel_rfl) (by kernel_rfl) HK7.out ?_ ?_
      rotate_left
      · intro w hS
        (try dsimp only at hS); first | (go_simp; done) | (go_simp; with_reducible rfl)
      (try simp only [ptS, stA, st0, stS])
      refine tkS (i := 7) (v := ?_) (by simp only [opA, opS, op0]; exact rfl) (by kernel_rfl) (by kernel_rfl) HK7.out ?_ ?_
      rotate_left
      · intro w hS
        (try dsimp only at hS); first | (go_simp; done) | (go_simp; with_reducible rfl)
      (try simp only [ptS, stA, st0, stS])
      refine tkS (i := 8) (v := ?_) (by simp only [opA, opS, op0]; exact rfl) (by kernel_rfl) (by kernel_rfl) HK7.out ?_ ?_
      rotate_left
      · intro w hS
        (try dsimp only at hS); first | (go_simp; done) | (go_simp; with_reducible rfl)
      (try simp only [ptS, stA, st0, stS])
      refine tkS (i := 10) (v := ?_) (by simp only [opA, opS, op0]; exact rfl) (by kernel_rfl) (by kernel_rfl) HK7.out ?_ ?_
      rotate_left
      · intro w hS
        (try dsimp only at hS); first | (go_simp; done) | (go_simp; with_reducible rfl)
      (try simp only [ptS, stA, st0, stS])
      refine wpAnyP_ready (rs := [1]) (by kernel_rfl) (by simp) ?_
      refine (AllReadyP.cons (by simp only [opA, opS, op0]; exact rfl) (fun K hK => ?_) AllReadyP.nil)
      rw [if_pos (by kernel_rfl)]
      have HC1 := Lib.hid (names_any 104 3 104 3 w7 rfl rfl (by omega) (by omega))
      go_simp
      refine HC1.out.mono ?_
      rintro e w8 ⟨⟨nv, rfl, ho⟩, hm⟩
      have HX8 := Lib.hid hm
      obtain ⟨nb, nc, rfl, hnb, hnx⟩ := name_cell ho (r := k) (by have := HK3.out; omega)
      have HNB := Lib.hid (show MB < nb from by have h1 := HM7.out.lt; omega)
      have HNBW := Lib.hid (show w1.heap.size ≤ nb from by have h1 := HA2.out.size; have h2 := HDR.out.size; have h3 := HSZ3.out; have h4 := HDR3.out.size; have h5 := HSB.out.2.size; have h6 := HSL.out.2.size; have h7 := HDR6.out.size; omega)
      have HK8 := Lib.hid (show (w8.cell? ⟨MB, 5, none⟩ = some (.int .i64 (xn : Int))) ∧ w8.cell? ⟨nb, k, none⟩ = some (.string (nmB 104 k)) from ⟨HX8.out.cell HK7.out, hnx⟩)
      have HM8 := Lib.hid (HM7.out.more HX8.out)
      have HG8 := Lib.hid (grow_trans HG7.out (grow_more HX8.out))
      have HO8 := Lib.hid (HO7.out.keep handC_keep (fun z _ hz => HX8.out.block hz))
      clear ho hm hnb hnx HC1
      have hs8 := cell_lt HK8.out.2
      try go_wp2_with fail
      refine hK.out _ _ (fun _ => HK8.out.1) ?_
      clear hK K
      (try simp only [ptS, stA, st0, stS])
      refine wpAnyP_str (S' := fun W => (W.cell? ⟨MB, 5, none⟩ = some (.int .i64 (xn : Int))) ∧ W.cell? ⟨nb, k, none⟩ = some (.string (nmB 104 k))) (fun _ h => h.1) ?_
      refine tkS (i := 3) (v := ?_) (by simp only [opA, opS, op0]; exact rfl) (by kernel_rfl) (by kernel_rfl) HK8.out ?_ ?_
      rotate_left
      · intro w hS
        (try dsimp only at hS); first | (go_simp; done) | (go_simp; with_reducible rfl)
      (try simp only [ptS, stA, st0, stS])
      refine tkS (i := 4) (v := ?_) (by simp only [opA, opS, op0]; exact rfl) (by kernel_rfl) (by kernel_rfl) HK8.out ?_ ?_
      rotate_left
      · intro w hS
        (try dsimp only at hS); first | (go_simp; done) | (go_simp; with_reducible rfl)
      (try simp only [ptS, stA, st0, stS])
      refine wpAnyP_ready (rs := [9]) (by kernel_rfl) (by simp) ?_
      refine (AllReadyP.cons (by simp only [opA, opS, op0]; exact rfl) (fun K hK => ?_) AllReadyP.nil)
      rw [if_pos (by kernel_rfl)]
      have HC1 := Lib.hid (names_any 112 xn 112 xn w8 rfl rfl (by omega) (by have := HX2.out; omega))
      go_simp
      refine HC1.out.mono ?_
      rintro e w9 ⟨⟨pv, rfl, ho⟩, hm⟩
      have HX9 := Lib.hid hm
      obtain ⟨pa, pc, rfl, _⟩ := owns_shape ho
      have HK9 := Lib.hid (show (w9.cell? ⟨MB, 5, none⟩ = some (.int .i64 (xn : Int))) ∧ w9.cell? ⟨nb, k, none⟩ = some (.string (nmB 104 k)) from ⟨HX9.out.cell HK8.out.1, HX9.out.cell HK8.out.2⟩)
      have HM9 := Lib.hid (HM8.out.more HX9.out)
      have HG9 := Lib.hid (grow_trans HG8.out (grow_more HX9.out))
      have HO9 := Lib.hid (HO8.out.keep handC_keep (fun z _ hz => HX9.out.block hz))
      clear ho hm HC1
      try go_wp2_with fail
      refine hK.out _ _ (fun _ => HK9.out) ?_
      clear hK K
      (try simp only [ptS, stA, st0, stS])
      refine wpAnyP_ready (rs := [11]) (by kernel_rfl) (by simp) ?_
      refine (AllReadyP.cons (by simp only [opA, opS, op0]; exact rfl) (fun K hK => ?_) AllReadyP.nil)
      rw [if_pos (by kernel_rfl)]
      have HC1 := Lib.hid (HBS.out MB d (xn : Int) 12 0 (bs.take q) w9 HM9.out HD3.out HFG.out (HAR.out.grown (Nat.le_of_lt HLT.out) HG9.out) (by omega) (by omega) (by omega) (by omega))
      go_simp
      refine HC1.out.mono ?_
      rintro e w10 ⟨sv, sn, lf10, l10, rfl, hsn, hb, hmk, _, _, hg⟩
      have HST := Lib.hid (hb.stmts hsn)
      obtain ⟨sa, sc, rfl, _⟩ := hb.shape
      have HM10 := Lib.hid hmk
      have HG10 := Lib.hid (grow_trans HG9.out hg)
      have HO10 := Lib.hid (HO9.out.keep handC_keep (fun z hz1 hz2 => hg.block z hz2 (fun e => by have := HLT.out; injection e with e; omega)))
      have HK10 := Lib.hid (show (w10.cell? ⟨MB, 5, none⟩ = some (.int .i64 (xn : Int))) ∧ w10.cell? ⟨nb, k, none⟩ = some (.string (nmB 104 k)) from ⟨HM10.out.c56.1, cell_grown (Nat.ne_of_gt HNB.out) hg HK9.out.2⟩)
      have HSZ := Lib.hid (show w1.heap.size ≤ w9.heap.size from by have h1 := HA2.out.size; have h2 := HDR.out.size; have h3 := HSZ3.out; have h4 := HDR3.out.size; have h5 := HSB.out.2.size; have h6 := HSL.out.2.size; have h7 := HDR6.out.size; have h8 := HX8.out.size; have h9 := HX9.out.size; omega)
      clear hb hmk hg hsn HC1
      try go_wp2_with fail
      refine hK.out _ _ (fun _ => HK10.out) ?_
      clear hK K
      (try simp only [ptS, stA, st0, stS])
      refine tkS (i := 12) (v := ?_) (by simp only [opA, opS, op0]; exact rfl) (by kernel_rfl) (by kernel_rfl) HK10.out ?_ ?_
      rotate_left
      · intro w hS
        (try dsimp only at hS); first | (go_simp; done) | (go_simp; with_reducible rfl)
      (try simp only [ptS, stA, st0, stS])
      refine wpAnyP_ready (rs := [13]) (by kernel_rfl) (by simp) ?_
      refine (AllReadyP.cons (by simp only [opA, opS, op0]; exact rfl) (fun K hK => ?_) AllReadyP.nil)
      rw [if_pos (by kernel_rfl)]
      have HA11 := Lib.hid (more_allocD w10 (.cells #[.string (nmB 104 k), .slice pa xn pc, .slice sa sn sc] 126))
      have HL11 := Lib.hid (alloc_last w10 (.cells #[.string (nmB 104 k), .slice pa xn pc, .slice sa sn sc] 126))
      go_simp
      have HM11 := Lib.hid (HM10.out.more HA11.out)
      have HG11 := Lib.hid (grow_trans HG10.out (grow_more HA11.out))
      have HO11 := Lib.hid (HO10.out.keep handC_keep (w' := w10.alloc (.cells #[.string (nmB 104 k), .slice pa xn pc, .slice sa sn sc] 126)) (fun z _ hz => HA11.out.block hz))
      have HK11 := Lib.hid (show ((w10.alloc (.cells #[.string (nmB 104 k), .slice pa xn pc, .slice sa sn sc] 126)).cell? ⟨MB, 5, none⟩ = some (.int .i64 (xn : Int))) ∧ (w10.alloc (.cells #[.string (nmB 104 k), .slice pa xn pc, .slice sa sn sc] 126)).cell? ⟨nb, k, none⟩ = some (.string (nmB 104 k)) from ⟨HA11.out.cell HK10.out.1, HA11.out.cell HK10.out.2⟩)
      have HSZ11 := Lib.hid HA11.out.size
      obtain ⟨LB, HLE⟩ : ∃ B, Hid (B = w10.heap.size) := ⟨_, Lib.hid rfl⟩
      rw [← HLE.out] at HL11
      try rw [← HLE.out]
      generalize w10.alloc (.cells #[.string (nmB 104 k), .slice pa xn pc, .slice sa sn sc] 126) = w11 at *
      refine hK.out _ _ (fun _ => HK11.out) ?_
      clear hK K
      (try simp only [ptS, stA, st0, stS])
      refine wpAnyP_ready (rs := [14]) (by kernel_rfl) (by simp) ?_
      refine (AllReadyP.cons (by simp only [opA, opS, op0]; exact rfl) (fun K hK => ?_) AllReadyP.nil)
      obtain ⟨xs, hox, hpush⟩ := HO11.out.open handC_keep
      have hbs11 : w.heap.size ≤ w11.heap.size := HG11.out.size
      have hm9 : k + 1 ≤ maxLen := by have := HK3.out; unfold maxLen; omega
      have hm8 : (k + 1) * 64 ≤ 140737488355328 := by have := HK3.out; omega
      refine step_append_lies _ (by rfl) _ _ _ (by rfl) w.heap.size 126 i0 _ 3 64 Try.underlying123 hi0 hz0 hz1 hz2 rfl (by omega) (.slice oa k oc) k xs (by rfl) hox ⟨LB, 0, none⟩ 1 1 [.string (nmB 104 k), .slice pa xn pc, .slice sa sn sc] (by rfl) (by rfl) (World.news_of_block (cs := #[.string (nmB 104 k), .slice pa xn pc, .slice sa sn sc]) (t := 126) (fr := (0, 0)) HL11.out) (by simp [Value.oneCell']) (by omega) hm9 hm8 hbs11 w11.heap.size (by rfl) ?_
      intro gg cap2 w12 hown hgrow hat _
      have HO12 := Lib.hid (hpush w12 gg cap2 _ [.string (nmB 104 k), .slice pa xn pc, .slice sa sn sc] hown hgrow hat (Nat.le_refl _) rfl ⟨_, _, _, _, _, rfl, HST.out.keep stmtC_keep (by decide) (fun b off u hb hc => ⟨⟨by have h9 : w9.heap.size ≤ b := hb; have h1 := HSZ.out; have h2 := HG1.out.size; omega, fun e => by have h9 : w9.heap.size ≤ b := hb; have h1 := (HOW.out b e).2; have h2 := HSZ.out; omega⟩, HA11.out.cell hc⟩)⟩)
      have HM12 := Lib.hid (HM11.out.keep (fun z hz => hgrow.block z (by have := HM11.out.lt; omega) (fun e => by have := (HOW.out z e.symm).1; have := HLT.out; omega)))
      have HG12 := Lib.hid (grow_own HG11.out hgrow (fun z e => (HOW.out z e).1))
      have HK12 := Lib.hid (show (w12.cell? ⟨MB, 5, none⟩ = some (.int .i64 (xn : Int))) ∧ w12.cell? ⟨nb, k, none⟩ = some (.string (nmB 104 k)) from ⟨HM12.out.c56.1, (World.cell?_of_block (w := w11) (a := ⟨nb, k, none⟩) (hgrow.block nb (World.block_lt_of_cell? w11 ⟨nb, k, none⟩ HK11.out.2) (fun e => by have h1 := (HOW.out nb e.symm).2; have h2 := HNBW.out; omega))).trans HK11.out.2⟩)
      clear hown hgrow hat hpush hox
      refine hK.out _ _ (fun _ => HK12.out) ?_
      clear hK K
      (try simp only [ptS, stA, st0, stS])
      refine wpAnyP_ready (rs := [15]) (by kernel_rfl) (by simp) ?_
      refine (AllReadyP.cons (by simp only [opA, opS, op0]; exact rfl) (fun K hK => ?_) AllReadyP.nil)
      rw [if_pos (by kernel_rfl)]
      go_simp
      refine hK.out _ _ (gone (by kernel_rfl)) ?_
      clear hK K
      (try simp only [ptS, stA, st0, stS])
      refine wpAnyP_done (by kernel_rfl) ?_ _
      have hlt9 := HLK.out
      go_wp2_with fail
      go_roundw
      case rel => exact ⟨k + 1, (xn : Int), lf10, l10, by have := HLK.out; omega, by go_num, HO12, HM12, HD3, HG12⟩
      case measure => have := HLK.out; simp [intOf]; omega
    · have hkn : k = n := by omega
      subst hkn
      go_wp2_with fail
      go_ret
      exact ⟨_, pr, lf, bl, rfl, HO.out.row handC_keep HN3.out, HM1.out, HD1.out, HG1.out⟩
end Go.Proofs.Ytekhoanjpnjaeaa

