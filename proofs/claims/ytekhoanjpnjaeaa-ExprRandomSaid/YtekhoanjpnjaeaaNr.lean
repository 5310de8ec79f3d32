/- Texts MkN, laid together. -/
import Derived.Test.YtekhoanjpnjaeaaNa
import Derived.Test.YtekhoanjpnjaeaaNq
/- (*maker).number (155). -/
namespace Go.Proofs.Ytekhoanjpnjaeaa
open Go.RowKit
def t0B : ByteArray := ⟨#[116, 48]⟩
def opsN (j : Int) : Int := if j = 0 then 14 else if j = 1 then 15 else if j = 2 then 11 else if j = 3 then 12 else if j = 4 then 13 else 14
/-- An int expression made of bytes. -/
def numF (d : MkD) (prm : Int) : Nat → Int → List Int → Ex × List Int
  | 0, _, l => (.node 1 ByteArray.empty 0 [], l)
  | f + 1, dp, l =>
    if (nextB l 12).1 < 2 ∨ (2 < dp ∧ 5 < (nextB l 12).1) then (.node 1 ByteArray.empty (nextB (nextB l 12).2 9).1 [], (nextB (nextB l 12).2 9).2)
    else if (nextB l 12).1 < 4 ∨ ((nextB l 12).1 = 4 ∧ prm = 0) then (.node 5 (nmB 120 (nextB (nextB l 12).2 d.ints).1.toNat) 0 [], (nextB (nextB l 12).2 d.ints).2)
    else if (nextB l 12).1 = 4 then (.node 5 (nmB 112 (nextB (nextB l 12).2 prm).1.toNat) 0 [], (nextB (nextB l 12).2 prm).2)
    else if (nextB l 12).1 = 5 then (.node 4 ByteArray.empty 0 [], (nextB l 12).2)
    else if (nextB l 12).1 = 6 ∧ 0 < d.tables then (.node 6 t0B 0 [(numF d prm f (dp + 1) (nextB l 12).2).1], (numF d prm f (dp + 1) (nextB l 12).2).2)
    else if (nextB l 12).1 = 7 ∧ 0 < d.tables then (.node 8 t0B 0 [], (nextB l 12).2)
    else if (nextB l 12).1 = 8 then (.node 9 ByteArray.empty 0 [(numF d prm f (dp + 1) (nextB l 12).2).1], (numF d prm f (dp + 1) (nextB l 12).2).2)
    else (.node (opsN (nextB (nextB l 12).2 6).1) ByteArray.empty 0 [(numF d prm f (dp + 1) (nextB (nextB l 12).2 6).2).1, (numF d prm f (dp + 1) (numF d prm f (dp + 1) (nextB (nextB l 12).2 6).2).2).1],
      (numF d prm f (dp + 1) (numF d prm f (dp + 1) (nextB (nextB l 12).2 6).2).2).2)
/-- What a maker's call that gives an expression leaves. -/
def ExpAt (w : World) (MB : Nat) (d : MkD) (prm left : Int) (D : Nat) (r : Ex × List Int) (e : Ending) (w' : World) : Prop :=
  ∃ c, e = .returned (agg .i64 r.1 c) ∧ Flds .i64 r.1 ∧ RepS .i64 (fun b => w.heap.size ≤ b) w' D r.1.args c ∧ MkAt w' MB d prm left r.2 ∧ w.grownBy w' (some MB)
structure MkD.Ok (d : MkD) (prm : Int) : Prop where
  i0 : 0 < d.ints
  i1 : d.ints ≤ 3
  t0 : 0 ≤ d.tables
  p0 : 0 ≤ prm
  p1 : prm ≤ 2
def NumSaid (f : Nat) : Prop := ∀ (MB : Nat) (d : MkD) (prm left dp : Int) (l : List Int) (w : World), MkAt w MB d prm left l → d.Ok prm → dp + f = 4 → 0 ≤ dp → 0 < f →
  Calls Try.prog 155 #[.pointer (some ⟨MB, 0, none⟩), .int .i64 dp] w (ExpAt w MB d prm left f (numF d prm f dp l))
theorem wf_small {z : Int} (h : 0 ≤ z) (h2 : z ≤ 255) : (Lit.int .u8 z).wf = true := by simp [Lit.wf, IntKind.min, IntKind.max, IntKind.signed, IntKind.bits]; omega
theorem wf_small64 {z : Int} (h : 0 ≤ z) (h2 : z ≤ 255) : (Lit.int .i64 z).wf = true := by simp [Lit.wf, IntKind.min, IntKind.max, IntKind.signed, IntKind.bits]; omega
theorem set4D {w : World} {B : Nat} (h : w.heap[B]? = some (.cells #[.int .i64 0, .string ⟨#[]⟩, .int .i64 0, .slice none 0 0] 36)) (x y z u : Value) : ((((w.setCell ⟨B, 0, none⟩ x).setCell ⟨B, 1, none⟩ y).setCell ⟨B, 2, none⟩ z).setCell ⟨B, 3, none⟩ u).heap[B]? = some (.cells #[x, y, z, u] 36) :=
  setCell_heapD (setCell_heapD (setCell_heapD (setCell_heapD h)))
theorem set4_otherD {w : World} {B b : Nat} (x y z u : Value) (h : b ≠ B) : ((((w.setCell ⟨B, 0, none⟩ x).setCell ⟨B, 1, none⟩ y).setCell ⟨B, 2, none⟩ z).setCell ⟨B, 3, none⟩ u).heap[b]? = w.heap[b]? :=
  (Below.heap_setCell _ _ _ _ h).trans ((Below.heap_setCell _ _ _ _ h).trans ((Below.heap_setCell _ _ _ _ h).trans (Below.heap_setCell _ _ _ _ h)))
theorem flds_small {op n : Int} {name : ByteArray} {args : List Ex} (h0 : 0 ≤ op) (h1 : op ≤ 255) (h2 : 0 ≤ n) (h3 : n ≤ 255) (h4 : name.size ≤ 2) (h5 : args.length ≤ 2) : Flds .i64 (.node op name n args) :=
  ⟨wf_small h0 h1, wf_small64 h2 h3, by unfold maxLen; simp only [Ex.name]; omega, by simp only [Ex.args]; omega⟩
theorem exp_fin {w w3 : World} {NB MB D : Nat} {d : MkD} {prm left op n : Int} {name : ByteArray} {args : List Ex} {rest : List Int} {c : Value} {arr : Array Value} (hn : NB = w.heap.size) (hM : MB < w.heap.size) (hg : w.grownBy w3 (some MB)) (hmk : MkAt w3 MB d prm left rest) (_hN : w3.heap[NB]? = some (.cells arr 36))
    (hf : Flds .i64 (.node op name n args)) (hr : RepS .i64 (fun b => NB < b) w3 D args c) :
    ExpAt w MB d prm left D (.node op name n args, rest) (.returned (.agg #[.int .i64 op, .string name, .int .i64 n, c])) ((((w3.setCell ⟨NB, 0, none⟩ (.int .i64 op)).setCell ⟨NB, 1, none⟩ (.string name)).setCell ⟨NB, 2, none⟩ (.int .i64 n)).setCell ⟨NB, 3, none⟩ c) := by
  have hk : ∀ b, b ≠ NB → ((((w3.setCell ⟨NB, 0, none⟩ (.int .i64 op)).setCell ⟨NB, 1, none⟩ (.string name)).setCell ⟨NB, 2, none⟩ (.int .i64 n)).setCell ⟨NB, 3, none⟩ c).heap[b]? = w3.heap[b]? := fun b hb => set4_otherD _ _ _ _ hb
  refine ⟨c, rfl, hf, hr.mono2 (fun b off v hb hc => ⟨by omega, ?_⟩) (Nat.le_refl _), ?_, ⟨hg.os, hg.tape, hg.output, ?_, fun k hk2 hn2 => (hk k (by omega)).trans (hg.block k hk2 hn2)⟩⟩
  · rw [World.cell?_of_block (a := ⟨b, off, none⟩) (hk b (by omega))]; exact hc
  · obtain ⟨a, cap, h1, h2⟩ := hmk.ex
    exact ⟨⟨a, cap, (hk MB (by omega)).trans h1, h2.mono (fun _ k => k) (fun b off u hb hc => by have hb : b < MB := hb; rw [World.cell?_of_block (a := ⟨b, off, none⟩) (hk b (by omega))]; exact hc)⟩, hmk.by', hmk.len⟩
  · have := hg.size; simpa [World.setCell] using this
theorem repAtD {S : Nat → Prop} {W : World} {B o f : Nat} {t : Ex} {c : Value} {arr : Array Value} {fr : Nat × Nat} (h : W.heap[B]? = some (.cells arr 36 fr)) (a0 : arr[o]? = some (.int .i64 t.op)) (a1 : arr[o + 1]? = some (.string t.name)) (a2 : arr[o + 2]? = some (.int .i64 t.n)) (a3 : arr[o + 3]? = some c) (hf : Flds .i64 t) (hr : RepS .i64 S W f t.args c) : RepAt .i64 S W f t B o :=
  ⟨by simp [World.cell?, h, a0], by simp [World.cell?, h, a1], by simp [World.cell?, h, a2], hf, c, by simp [World.cell?, h, a3], hr⟩
theorem rep1D {S : Nat → Prop} {W : World} {B f : Nat} {t : Ex} {c : Value} {fr : Nat × Nat} (h : W.heap[B]? = some (.cells #[.int .i64 t.op, .string t.name, .int .i64 t.n, c] 36 fr)) (hS : S B) (hf : Flds .i64 t) (hr : RepS .i64 S W f t.args c) : RepS .i64 S W (f + 1) [t] (.slice (some ⟨B, 0, none⟩) 1 1) :=
  RepS.mk rfl hS (fun i hi => by
    obtain rfl : i = 0 := by simpa using hi
    exact repAtD h rfl rfl rfl rfl hf hr)
theorem rep2D {S : Nat → Prop} {W : World} {B f : Nat} {t u : Ex} {c e : Value} {fr : Nat × Nat} (h : W.heap[B]? = some (.cells #[.int .i64 t.op, .string t.name, .int .i64 t.n, c, .int .i64 u.op, .string u.name, .int .i64 u.n, e] 36 fr)) (hS : S B) (hf : Flds .i64 t) (hr : RepS .i64 S W f t.args c) (hg : Flds .i64 u) (hs : RepS .i64 S W f u.args e) : RepS .i64 S W (f + 1) [t, u] (.slice (some ⟨B, 0, none⟩) 2 2) :=
  RepS.mk rfl hS (fun i hi => by
    have h2 : i = 0 ∨ i = 1 := by simp at hi; omega
    rcases h2 with rfl | rfl
    · exact repAtD h rfl rfl rfl rfl hf hr
    · exact repAtD h rfl rfl rfl rfl hg hs)
theorem set4_sizeD (w : World) (B : Nat) (x y z u : Value) : ((((w.setCell ⟨B, 0, none⟩ x).setCell ⟨B, 1, none⟩ y).setCell ⟨B, 2, none⟩ z).setCell ⟨B, 3, none⟩ u).heap.size = w.heap.size := by simp [World.setCell]
theorem exp_finA {w w3 : World} {NB MB D : Nat} {d : MkD} {prm left op n : Int} {name : ByteArray} {args : List Ex} {rest : List Int} {c : Value} {o : Obj} (hn : NB = w.heap.size) (hM : MB < w.heap.size) (hg : w.grownBy w3 (some MB)) (hmk : MkAt w3 MB d prm left rest)
    (hf : Flds .i64 (.node op name n args)) (hr : RepS .i64 (fun b => NB < b) (((((w3.setCell ⟨NB, 0, none⟩ (.int .i64 op)).setCell ⟨NB, 1, none⟩ (.string name)).setCell ⟨NB, 2, none⟩ (.int .i64 n)).setCell ⟨NB, 3, none⟩ c).alloc o) D args c) :
    ExpAt w MB d prm left D (.node op name n args, rest) (.returned (.agg #[.int .i64 op, .string name, .int .i64 n, c])) (((((w3.setCell ⟨NB, 0, none⟩ (.int .i64 op)).setCell ⟨NB, 1, none⟩ (.string name)).setCell ⟨NB, 2, none⟩ (.int .i64 n)).setCell ⟨NB, 3, none⟩ c).alloc o) := by
  have hk : ∀ b, b ≠ NB → ((((w3.setCell ⟨NB, 0, none⟩ (.int .i64 op)).setCell ⟨NB, 1, none⟩ (.string name)).setCell ⟨NB, 2, none⟩ (.int .i64 n)).setCell ⟨NB, 3, none⟩ c).heap[b]? = w3.heap[b]? := fun b hb => set4_otherD _ _ _ _ hb
  have hsz := set4_sizeD w3 NB (.int .i64 op) (.string name) (.int .i64 n) c
  have hm := more_allocD ((((w3.setCell ⟨NB, 0, none⟩ (.int .i64 op)).setCell ⟨NB, 1, none⟩ (.string name)).setCell ⟨NB, 2, none⟩ (.int .i64 n)).setCell ⟨NB, 3, none⟩ c) o
  have hg4 : w.grownBy ((((w3.setCell ⟨NB, 0, none⟩ (.int .i64 op)).setCell ⟨NB, 1, none⟩ (.string name)).setCell ⟨NB, 2, none⟩ (.int .i64 n)).setCell ⟨NB, 3, none⟩ c) (some MB) := ⟨hg.os, hg.tape, hg.output, by rw [hsz]; exact hg.size, fun k hk2 hn2 => (hk k (by omega)).trans (hg.block k hk2 hn2)⟩
  have hm4 : MkAt ((((w3.setCell ⟨NB, 0, none⟩ (.int .i64 op)).setCell ⟨NB, 1, none⟩ (.string name)).setCell ⟨NB, 2, none⟩ (.int .i64 n)).setCell ⟨NB, 3, none⟩ c) MB d prm left rest := by
    obtain ⟨a, cap, h1, h2⟩ := hmk.ex
    exact ⟨⟨a, cap, (hk MB (by omega)).trans h1, h2.mono (fun _ k => k) (fun b off u hb hc => by have hb : b < MB := hb; rw [World.cell?_of_block (a := ⟨b, off, none⟩) (hk b (by omega))]; exact hc)⟩, hmk.by', hmk.len⟩
  exact ⟨c, rfl, hf, hr.mono2 (fun b off v hb hc => ⟨by omega, hc⟩) (Nat.le_refl _), hm4.more hm, grow_trans hg4 (grow_more hm)⟩
theorem kid4 {w3 : World} {NB X f : Nat} {ts : List Ex} {c x y z u : Value} {o : Obj} (hX : NB < X) (hr : RepS .i64 (fun b => X ≤ b) w3 f ts c) : RepS .i64 (fun b => NB < b) (((((w3.setCell ⟨NB, 0, none⟩ x).setCell ⟨NB, 1, none⟩ y).setCell ⟨NB, 2, none⟩ z).setCell ⟨NB, 3, none⟩ u).alloc o) f ts c :=
  hr.mono2 (fun b off v hb hc => ⟨by omega, (more_allocD _ o).cell (by rw [World.cell?_of_block (a := ⟨b, off, none⟩) (set4_otherD x y z u (show b ≠ NB by omega))]; exact hc)⟩) (Nat.le_refl _)
theorem new4 {w3 : World} {NB : Nat} {x y z u : Value} {o : Obj} : (((((w3.setCell ⟨NB, 0, none⟩ x).setCell ⟨NB, 1, none⟩ y).setCell ⟨NB, 2, none⟩ z).setCell ⟨NB, 3, none⟩ u).alloc o).heap[w3.heap.size]? = some o := by
  have h := alloc_last ((((w3.setCell ⟨NB, 0, none⟩ x).setCell ⟨NB, 1, none⟩ y).setCell ⟨NB, 2, none⟩ z).setCell ⟨NB, 3, none⟩ u) o
  rwa [set4_sizeD] at h
theorem opsN_rng (j : Int) : 0 ≤ opsN j ∧ opsN j ≤ 255 := by
  unfold opsN
  repeat' split
  all_goals omega
theorem opsN_cell {j : Nat} (h : j < 6) : (#[.int .i64 14, .int .i64 15, .int .i64 11, .int .i64 12, .int .i64 13, .int .i64 14] : Array Value)[j]? = some (.int .i64 (opsN j)) := by
  have h6 : j = 0 ∨ j = 1 ∨ j = 2 ∨ j = 3 ∨ j = 4 ∨ j = 5 := by omega
  rcases h6 with rfl | rfl | rfl | rfl | rfl | rfl <;> rfl
set_option maxRecDepth 100000 in
set_option maxHeartbeats 2000000 in
theorem number_any (f : Nat) : NumSaid f := by
  induction f with
  | zero => intro MB d prm left dp l w h hd hf h0 hp; omega
  | succ f ih =>
    intro MB d prm left dp l w h hd hf h0 _
    have IH := Lib.hid ih; clear ih
    have HMK := Lib.hid h
    have HD := Lib.hid hd
    have HF := Lib.hid hf
    have HA := Lib.hid (more_allocD w (.cells #[.int .i64 0, .string ⟨#[]⟩, .int .i64 0, .slice none 0 0] 36))
    have HN0 := Lib.hid (alloc_last w (.cells #[.int .i64 0, .string ⟨#[]⟩, .int .i64 0, .slice none 0 0] 36))
    have HM1 := Lib.hid (h.more HA.out)
    have HLT := Lib.hid h.lt
    obtain ⟨NB, HNB⟩ : ∃ B, Hid (B = w.heap.size) := ⟨_, Lib.hid rfl⟩
    rw [← HNB.out] at HN0
    have HCA := Lib.hid (next_any MB d prm left 12 l _ HM1.out (by omega) (by omega))
    have HR := Lib.hid (nextB_rng l (n := 12) (by omega))
    generalize hnum : numF d prm (f + 1) dp l = R
    have HNUM := Lib.hid hnum; clear hnum h hd hf
    obtain ⟨k, l1, hkl⟩ : ∃ k l1, nextB l 12 = (k, l1) := ⟨_, _, rfl⟩
    have HKL := Lib.hid hkl
    unfold numF at HNUM
    rw [hkl] at HCA HR HNUM
    dsimp only at HCA HR HNUM
    clear hkl
    go_enter Try.func155, Try.ntmps155
    go_wp2_with fail
    rw [← HNB.out]
    generalize w.alloc (.cells #[.int .i64 0, .string ⟨#[]⟩, .int .i64 0, .slice none 0 0] 36) = w1 at *
    refine HCA.out.mono ?_
    rintro e w2 ⟨rfl, hmk, hg⟩
    have HM2 := Lib.hid hmk
    have HG2 := Lib.hid (show w.grownBy w2 (some MB) from grow_trans (grow_more HA.out) hg)
    have HN2 := Lib.hid ((hg.block NB (blk_ltD HN0.out) (fun e => by have := HLT.out; have := HNB.out; injection e with e; omega)).trans HN0.out)
    clear hmk hg HCA
    have hk0 : 0 ≤ k := HR.out.1
    have hk1 : k < 12 := HR.out.2
    by_cases hA : k < 2 ∨ (2 < dp ∧ 5 < k)
    · rw [if_pos hA] at HNUM
      have HCB := Lib.hid (next_any MB d prm left 9 l1 w2 HM2.out (by omega) (by omega))
      have HRB := Lib.hid (nextB_rng l1 (n := 9) (by omega))
      obtain ⟨v, l2, hvl⟩ : ∃ v l2, nextB l1 9 = (v, l2) := ⟨_, _, rfl⟩
      rw [hvl] at HCB HRB HNUM
      dsimp only at HCB HRB HNUM
      clear hvl
      have hv0 := HRB.out.1
      have hv9 := HRB.out.2
      by_cases h2 : k < 2
      · clear hA
        skip
        go_wp2_with fail
        refine HCB.out.mono ?_
        rintro e w3 ⟨rfl, hmk, hg⟩
        have HM3 := Lib.hid hmk
        have HG3 := Lib.hid (grow_trans HG2.out hg)
        have HN3 := Lib.hid ((hg.block NB (blk_ltD HN2.out) (fun e => by have := HLT.out; have := HNB.out; injection e with e; omega)).trans HN2.out)
        clear hmk hg
        have n0 : w3.cell? ⟨NB, 0, none⟩ = some (.int .i64 0) := by simp [World.cell?, HN3.out]
        have f0 := thaw HN3.out 0
        have n1 : w3.cell? ⟨NB, 1, none⟩ = some (.string ⟨#[]⟩) := by simp [World.cell?, HN3.out]
        have f1 := thaw HN3.out 1
        have n2 : w3.cell? ⟨NB, 2, none⟩ = some (.int .i64 0) := by simp [World.cell?, HN3.out]
        have f2 := thaw HN3.out 2
        have n3 : w3.cell? ⟨NB, 3, none⟩ = some (.slice none 0 0) := by simp [World.cell?, HN3.out]
        have f3 := thaw HN3.out 3
        have hbn := cell_lt n0
        go_wp2_with fail
        have HW := set4D HN3.out (.int .i64 1) (.string ⟨#[]⟩) (.int .i64 v) (.slice none 0 0)
        refine bodyPost_ret (v := .agg #[.int .i64 1, .string ⟨#[]⟩, .int .i64 v, .slice none 0 0]) (results_cell_row Try.results155 _ _ NB 36 _ (0, 0) _ rfl HW Try.underlying36 rfl (by kernel_rfl)) rfl ?_
        rw [← HNUM.out]
        exact exp_fin HNB.out HLT.out HG3.out HM3.out HN3.out (flds_small (by omega) (by omega) (by omega) (by omega) (by decide) (by simp)) (RepS.nil _ _ _)
      · have hdp : 2 < dp := by omega
        have hk5 : 5 < k := by omega
        clear hA
        go_wp2_with fail
        refine HCB.out.mono ?_
        rintro e w3 ⟨rfl, hmk, hg⟩
        have HM3 := Lib.hid hmk
        have HG3 := Lib.hid (grow_trans HG2.out hg)
        have HN3 := Lib.hid ((hg.block NB (blk_ltD HN2.out) (fun e => by have := HLT.out; have := HNB.out; injection e with e; omega)).trans HN2.out)
        clear hmk hg
        have n0 : w3.cell? ⟨NB, 0, none⟩ = some (.int .i64 0) := by simp [World.cell?, HN3.out]
        have f0 := thaw HN3.out 0
        have n1 : w3.cell? ⟨NB, 1, none⟩ = some (.string ⟨#[]⟩) := by simp [World.cell?, HN3.out]
        have f1 := thaw HN3.out 1
        have n2 : w3.cell? ⟨NB, 2, none⟩ = some (.int .i64 0) := by simp [World.cell?, HN3.out]
        have f2 := thaw HN3.out 2
        have n3 : w3.cell? ⟨NB, 3, none⟩ = some (.slice none 0 0) := by simp [World.cell?, HN3.out]
        have f3 := thaw HN3.out 3
        have hbn := cell_lt n0
        go_wp2_with fail
        have HW := set4D HN3.out (.int .i64 1) (.string ⟨#[]⟩) (.int .i64 v) (.slice none 0 0)
        refine bodyPost_ret (v := .agg #[.int .i64 1, .string ⟨#[]⟩, .int .i64 v, .slice none 0 0]) (results_cell_row Try.results155 _ _ NB 36 _ (0, 0) _ rfl HW Try.underlying36 rfl (by kernel_rfl)) rfl ?_
        rw [← HNUM.out]
        exact exp_fin HNB.out HLT.out HG3.out HM3.out HN3.out (flds_small (by omega) (by omega) (by omega) (by omega) (by decide) (by simp)) (RepS.nil _ _ _)
    · rw [if_neg hA] at HNUM
      have hA2 : 2 ≤ k := by omega
      have c5 := HM2.out.c0.2.2.2
      have c1 := HM2.out.c0.2.1
      have hbm := cell_lt c5
      by_cases hB : k < 4 ∨ (k = 4 ∧ prm = 0)
      · rw [if_pos hB] at HNUM
        have HCB := Lib.hid (integer_any MB d prm left l1 w2 HM2.out HD.out.i0 HD.out.i1)
        obtain ⟨nm, HNM⟩ : ∃ s, Hid (nmB 120 (nextB l1 d.ints).1.toNat = s) := ⟨_, Lib.hid rfl⟩
        have HNZ := Lib.hid (show nm.size ≤ 2 by rw [← HNM.out]; exact Nat.le_refl _)
        rw [HNM.out] at HCB HNUM
        by_cases hdp : 2 < dp
        · have hk5 : k ≤ 5 := by omega
          clear hA
          by_cases h4 : k < 4
          · clear hB
            go_wp2_with fail
            refine HCB.out.mono ?_
            rintro e w3 ⟨rfl, hmk, hg⟩
            have HM3 := Lib.hid hmk
            have HG3 := Lib.hid (grow_trans HG2.out hg)
            have HN3 := Lib.hid ((hg.block NB (blk_ltD HN2.out) (fun e => by have := HLT.out; have := HNB.out; injection e with e; omega)).trans HN2.out)
            clear hmk hg
            have n0 : w3.cell? ⟨NB, 0, none⟩ = some (.int .i64 0) := by simp [World.cell?, HN3.out]
            have f0 := thaw HN3.out 0
            have n1 : w3.cell? ⟨NB, 1, none⟩ = some (.string ⟨#[]⟩) := by simp [World.cell?, HN3.out]
            have f1 := thaw HN3.out 1
            have n2 : w3.cell? ⟨NB, 2, none⟩ = some (.int .i64 0) := by simp [World.cell?, HN3.out]
            have f2 := thaw HN3.out 2
            have n3 : w3.cell? ⟨NB, 3, none⟩ = some (.slice none 0 0) := by simp [World.cell?, HN3.out]
            have f3 := thaw HN3.out 3
            have hbn := cell_lt n0
            go_wp2_with fail
            have HW := set4D HN3.out (.int .i64 5) (.string nm) (.int .i64 0) (.slice none 0 0)
            refine bodyPost_ret (v := .agg #[.int .i64 5, .string nm, .int .i64 0, .slice none 0 0]) (results_cell_row Try.results155 _ _ NB 36 _ (0, 0) _ rfl HW Try.underlying36 rfl (by kernel_rfl)) rfl ?_
            rw [← HNUM.out]
            exact exp_fin HNB.out HLT.out HG3.out HM3.out HN3.out (flds_small (by omega) (by omega) (by omega) (by omega) HNZ.out (by simp)) (RepS.nil _ _ _)
          · obtain ⟨hk4, hp0⟩ : k = 4 ∧ prm = 0 := by omega
            subst hk4
            clear hB h4
            have hp9 : (prm == 0) = true := by rw [hp0]; rfl
            go_wp2_with fail
            refine HCB.out.mono ?_
            rintro e w3 ⟨rfl, hmk, hg⟩
            have HM3 := Lib.hid hmk
            have HG3 := Lib.hid (grow_trans HG2.out hg)
            have HN3 := Lib.hid ((hg.block NB (blk_ltD HN2.out) (fun e => by have := HLT.out; have := HNB.out; injection e with e; omega)).trans HN2.out)
            clear hmk hg
            have n0 : w3.cell? ⟨NB, 0, none⟩ = some (.int .i64 0) := by simp [World.cell?, HN3.out]
            have f0 := thaw HN3.out 0
            have n1 : w3.cell? ⟨NB, 1, none⟩ = some (.string ⟨#[]⟩) := by simp [World.cell?, HN3.out]
            have f1 := thaw HN3.out 1
            have n2 : w3.cell? ⟨NB, 2, none⟩ = some (.int .i64 0) := by simp [World.cell?, HN3.out]
            have f2 := thaw HN3.out 2
            have n3 : w3.cell? ⟨NB, 3, none⟩ = some (.slice none 0 0) := by simp [World.cell?, HN3.out]
            have f3 := thaw HN3.out 3
            have hbn := cell_lt n0
            go_wp2_with fail
            have HW := set4D HN3.out (.int .i64 5) (.string nm) (.int .i64 0) (.slice none 0 0)
            refine bodyPost_ret (v := .agg #[.int .i64 5, .string nm, .int .i64 0, .slice none 0 0]) (results_cell_row Try.results155 _ _ NB 36 _ (0, 0) _ rfl HW Try.underlying36 rfl (by kernel_rfl)) rfl ?_
            rw [← HNUM.out]
            exact exp_fin HNB.out HLT.out HG3.out HM3.out HN3.out (flds_small (by omega) (by omega) (by omega) (by omega) HNZ.out (by simp)) (RepS.nil _ _ _)
        · have hdp2 : dp ≤ 2 := by omega
          clear hA hdp
          by_cases h4 : k < 4
          · clear hB
            go_wp2_with fail
            refine HCB.out.mono ?_
            rintro e w3 ⟨rfl, hmk, hg⟩
            have HM3 := Lib.hid hmk
            have HG3 := Lib.hid (grow_trans HG2.out hg)
            have HN3 := Lib.hid ((hg.block NB (blk_ltD HN2.out) (fun e => by have := HLT.out; have := HNB.out; injection e with e; omega)).trans HN2.out)
            clear hmk hg
            have n0 : w3.cell? ⟨NB, 0, none⟩ = some (.int .i64 0) := by simp [World.cell?, HN3.out]
            have f0 := thaw HN3.out 0
            have n1 : w3.cell? ⟨NB, 1, none⟩ = some (.string ⟨#[]⟩) := by simp [World.cell?, HN3.out]
            have f1 := thaw HN3.out 1
            have n2 : w3.cell? ⟨NB, 2, none⟩ = some (.int .i64 0) := by simp [World.cell?, HN3.out]
            have f2 := thaw HN3.out 2
            have n3 : w3.cell? ⟨NB, 3, none⟩ = some (.slice none 0 0) := by simp [World.cell?, HN3.out]
            have f3 := thaw HN3.out 3
            have hbn := cell_lt n0
            go_wp2_with fail
            have HW := set4D HN3.out (.int .i64 5) (.string nm) (.int .i64 0) (.slice none 0 0)
            refine bodyPost_ret (v := .agg #[.int .i64 5, .string nm, .int .i64 0, .slice none 0 0]) (results_cell_row Try.results155 _ _ NB 36 _ (0, 0) _ rfl HW Try.underlying36 rfl (by kernel_rfl)) rfl ?_
            rw [← HNUM.out]
            exact exp_fin HNB.out HLT.out HG3.out HM3.out HN3.out (flds_small (by omega) (by omega) (by omega) (by omega) HNZ.out (by simp)) (RepS.nil _ _ _)
          · obtain ⟨hk4, hp0⟩ : k = 4 ∧ prm = 0 := by omega
            subst hk4
            clear hB h4
            have hp9 : (prm == 0) = true := by rw [hp0]; rfl
            go_wp2_with fail
            refine HCB.out.mono ?_
            rintro e w3 ⟨rfl, hmk, hg⟩
            have HM3 := Lib.hid hmk
            have HG3 := Lib.hid (grow_trans HG2.out hg)
            have HN3 := Lib.hid ((hg.block NB (blk_ltD HN2.out) (fun e => by have := HLT.out; have := HNB.out; injection e with e; omega)).trans HN2.out)
            clear hmk hg
            have n0 : w3.cell? ⟨NB, 0, none⟩ = some (.int .i64 0) := by simp [World.cell?, HN3.out]
            have f0 := thaw HN3.out 0
            have n1 : w3.cell? ⟨NB, 1, none⟩ = some (.string ⟨#[]⟩) := by simp [World.cell?, HN3.out]
            have f1 := thaw HN3.out 1
            have n2 : w3.cell? ⟨NB, 2, none⟩ = some (.int .i64 0) := by simp [World.cell?, HN3.out]
            have f2 := thaw HN3.out 2
            have n3 : w3.cell? ⟨NB, 3, none⟩ = some (.slice none 0 0) := by simp [World.cell?, HN3.out]
            have f3 := thaw HN3.out 3
            have hbn := cell_lt n0
            go_wp2_with fail
            have HW := set4D HN3.out (.int .i64 5) (.string nm) (.int .i64 0) (.slice none 0 0)
            refine bodyPost_ret (v := .agg #[.int .i64 5, .string nm, .int .i64 0, .slice none 0 0]) (results_cell_row Try.results155 _ _ NB 36 _ (0, 0) _ rfl HW Try.underlying36 rfl (by kernel_rfl)) rfl ?_
            rw [← HNUM.out]
            exact exp_fin HNB.out HLT.out HG3.out HM3.out HN3.out (flds_small (by omega) (by omega) (by omega) (by omega) HNZ.out (by simp)) (RepS.nil _ _ _)
      · rw [if_neg hB] at HNUM
        by_cases hC : k = 4
        · rw [if_pos hC] at HNUM
          have hp0 : prm ≠ 0 := by omega
          have hpz : (prm == 0) = false := beq_eq_false_iff_ne.2 hp0
          have hpp : 0 < prm := by have := HD.out.p0; omega
          have HPP := Lib.hid (And.intro hpp HD.out.p1)
          clear hB
          by_cases hdp : 2 < dp
          · have hk5 : k ≤ 5 := by omega
            clear hA
            subst hC
            go_upto_region 7 with fail
            clear hpz hp0 c1 c5 hbm
            have HM2d := Lib.hid (HM2.out.more (more_drew w2))
            have HG2d := Lib.hid (grow_trans HG2.out (grow_more (more_drew w2)))
            have HN2d := Lib.hid (show w2.drew.heap[NB]? = _ from HN2.out)
            have HKC := Lib.hid (show ∀ W l', MkAt W MB d prm left l' → W.cell? ⟨MB, 5, none⟩ = some (.int .i64 prm) from fun W l' h => h.c0.2.2.2)
            refine wp_region_heldP (S := fun W => W.cell? ⟨MB, 5, none⟩ = some (.int .i64 prm)) 6 (by kernel_rfl) ?_
            generalize w2.drew = wd at *
            refine tkS (i := 1) (v := ?_) (by simp only [opA, opS, op0]; exact rfl) (by kernel_rfl) (by kernel_rfl) (HKC.out _ _ HM2d.out) ?_ ?_
            rotate_left
            · intro w hS
              (try dsimp only at hS); first | (go_simp; done) | (go_simp; with_reducible rfl)
            (try simp only [ptS, stA, st0, stS])
            refine tkW (i := 2) (v := ?_) (by simp only [opA, opS, op0]; exact rfl) (by kernel_rfl) (by kernel_rfl) (fun _ => (HKC.out _ _ HM2d.out)) ?_ ?_
            rotate_left
            · intro w hS
              first | (go_simp; done) | (go_simp; with_reducible rfl)
            (try simp only [ptS, stA, st0, stS])
            refine tkW (i := 3) (v := ?_) (by simp only [opA, opS, op0]; exact rfl) (by kernel_rfl) (by kernel_rfl) (fun _ => (HKC.out _ _ HM2d.out)) ?_ ?_
            rotate_left
            · intro w hS
              first | (go_simp; done) | (go_simp; with_reducible rfl)
            (try simp only [ptS, stA, st0, stS])
            refine tkW (i := 4) (v := ?_) (by simp only [opA, opS, op0]; exact rfl) (by kernel_rfl) (by kernel_rfl) (fun _ => (HKC.out _ _ HM2d.out)) ?_ ?_
            rotate_left
            · intro w hS
              first | (go_simp; done) | (go_simp; with_reducible rfl)
            (try simp only [ptS, stA, st0, stS])
            refine tkS (i := 5) (v := ?_) (by simp only [opA, opS, op0]; exact rfl) (by kernel_rfl) (by kernel_rfl) (HKC.out _ _ HM2d.out) ?_ ?_
            rotate_left
            · intro w hS
              (try dsimp only at hS); first | (go_simp; done) | (go_simp; with_reducible rfl)
            (try simp only [ptS, stA, st0, stS])
            refine wpAnyP_ready (rs := [0]) (by kernel_rfl) (by simp) ?_
            refine (AllReadyP.cons (by simp only [opA, op0]; exact rfl) (fun K hK => ?_) AllReadyP.nil)
            rw [if_pos (by kernel_rfl)]
            have HC := Lib.hid (names_any 112 2 112 2 wd rfl rfl (by omega) (by omega))
            go_simp
            refine HC.out.mono ?_
            rintro e w3 ⟨⟨v1, rfl, ho⟩, hm⟩
            have HO3 := Lib.hid ho
            have HX3 := Lib.hid hm
            obtain ⟨oa, oc, rfl, _⟩ := owns_shape ho
            clear ho hm HC
            have HM3 := Lib.hid (HM2d.out.more HX3.out)
            have HG3 := Lib.hid (grow_trans HG2d.out (grow_more HX3.out))
            have HN3 := Lib.hid ((HX3.out.block (blk_ltD HN2d.out)).trans HN2d.out)
            try go_wp2_with fail
            refine hK.out _ _ (fun _ => (HKC.out _ _ HM3.out)) ?_
            clear hK K
            (try simp only [ptS, stA, st0, stS])
            refine wpAnyP_ready (rs := [6]) (by kernel_rfl) (by simp) ?_
            refine (AllReadyP.cons (by simp only [opA, opS, op0]; exact rfl) (fun K hK => ?_) AllReadyP.nil)
            rw [if_pos (by kernel_rfl)]
            have HC := Lib.hid (next_any MB d prm left prm l1 w3 HM3.out HPP.out.1 (by have := HPP.out.2; omega))
            have HRR := Lib.hid (show 0 ≤ (nextB l1 prm).1 ∧ (nextB l1 prm).1 < 2 from by have h1 := nextB_rng l1 HPP.out.1; have h2 := HPP.out.2; omega)
            obtain ⟨r, HRE⟩ : ∃ r : Nat, Hid ((nextB l1 prm).1 = r) := ⟨(nextB l1 prm).1.toNat, Lib.hid (by have := HRR.out; omega)⟩
            rw [HRE.out] at HC HRR HNUM
            go_simp
            refine HC.out.mono ?_
            rintro e w4 ⟨rfl, hmk, hg⟩
            have HM4 := Lib.hid hmk
            have HG4 := Lib.hid (grow_trans HG3.out hg)
            have HN4 := Lib.hid ((hg.block NB (blk_ltD HN3.out) (fun e => by have := HLT.out; have := HNB.out; injection e with e; omega)).trans HN3.out)
            have hr3 : r < 2 := by have := HRR.out; omega
            have hr3i : (r : Int) < 2 := by omega
            have HO4 := Lib.hid (owns_keep HO3.out (fun z hz => hg.block z (HO3.out.lt z hz).2 (fun e => by have := (HO3.out.lt z hz).1; have := HM2d.out.lt; injection e with e; omega)))
            clear hmk hg HC
            obtain ⟨b, off, hbo, _, _, hc⟩ := (Row.of_owns HO4.out).at (by omega)
            subst hbo
            have e0 : w4.cell? ⟨b, off + r, none⟩ = some (.string (nmB 112 r)) := by
              have h := hc r (.string (nmB 112 r)) (by unfold namesL; simp [hr3])
              simpa using h
            clear hc
            have hbe := cell_lt e0
            try go_wp2_with fail
            refine hK.out _ _ (gone (by kernel_rfl)) ?_
            clear hK K
            (try simp only [ptS, stA, st0, stS])
            refine tkW (i := 7) (v := ?_) (by simp only [opA, opS, op0]; exact rfl) (by kernel_rfl) (by kernel_rfl) (gone (by kernel_rfl)) ?_ ?_
            rotate_left
            · intro w hS
              first | (go_simp; done) | (go_simp; with_reducible rfl)
            (try simp only [ptS, stA, st0, stS])
            refine wpAnyP_ready (rs := [8]) (by kernel_rfl) (by simp) ?_
            refine (AllReadyP.cons (by simp only [opA, opS, op0]; exact rfl) (fun K hK => ?_) AllReadyP.nil)
            rw [if_pos (by kernel_rfl)]
            go_simp
            rw [Int.toNat_natCast] at HNUM
            obtain ⟨nm, HNM⟩ : ∃ s, Hid (nmB 112 r = s) := ⟨_, Lib.hid rfl⟩
            have HNZ := Lib.hid (show nm.size ≤ 2 by rw [← HNM.out]; exact Nat.le_refl _)
            rw [HNM.out] at HNUM ⊢
            clear e0 hbe
            refine hK.out _ _ (gone (by kernel_rfl)) ?_
            clear hK K
            (try simp only [ptS, stA, st0, stS])
            refine tkW (i := 9) (v := ?_) (by simp only [opA, opS, op0]; exact rfl) (by kernel_rfl) (by kernel_rfl) (gone (by kernel_rfl)) ?_ ?_
            rotate_left
            · intro w hS
              first | (go_simp; done) | (go_simp; with_reducible rfl)
            (try simp only [ptS, stA, st0, stS])
            refine wpAnyP_ready (rs := [10]) (by kernel_rfl) (by simp) ?_
            refine (AllReadyP.cons (by simp only [opA, opS, op0]; exact rfl) (fun K hK => ?_) AllReadyP.nil)
            rw [if_pos (by kernel_rfl)]
            have n0 : w4.cell? ⟨NB, 0, none⟩ = some (.int .i64 0) := by simp [World.cell?, HN4.out]
            have f0 := thaw HN4.out 0
            have n1 : w4.cell? ⟨NB, 1, none⟩ = some (.string ⟨#[]⟩) := by simp [World.cell?, HN4.out]
            have f1 := thaw HN4.out 1
            have n2 : w4.cell? ⟨NB, 2, none⟩ = some (.int .i64 0) := by simp [World.cell?, HN4.out]
            have f2 := thaw HN4.out 2
            have n3 : w4.cell? ⟨NB, 3, none⟩ = some (.slice none 0 0) := by simp [World.cell?, HN4.out]
            have f3 := thaw HN4.out 3
            have hbn := cell_lt n0
            go_simp
            refine hK.out _ _ (gone (by kernel_rfl)) ?_
            clear hK K
            (try simp only [ptN])
            refine wpAnyP_done (by kernel_rfl) ?_ _
            go_wp2_with fail
            have HW := set4D HN4.out (.int .i64 5) (.string nm) (.int .i64 0) (.slice none 0 0)
            refine bodyPost_ret (v := .agg #[.int .i64 5, .string nm, .int .i64 0, .slice none 0 0]) (results_cell_row Try.results155 _ _ NB 36 _ (0, 0) _ rfl HW Try.underlying36 rfl (by kernel_rfl)) rfl ?_
            rw [← HNUM.out]
            exact exp_fin HNB.out HLT.out HG4.out HM4.out HN4.out (flds_small (by omega) (by omega) (by omega) (by omega) HNZ.out (by simp)) (RepS.nil _ _ _)
          · have hdp2 : dp ≤ 2 := by omega
            clear hA hdp
            subst hC
            go_upto_region 7 with fail
            clear hpz hp0 c1 c5 hbm
            have HM2d := Lib.hid (HM2.out.more (more_drew w2))
            have HG2d := Lib.hid (grow_trans HG2.out (grow_more (more_drew w2)))
            have HN2d := Lib.hid (show w2.drew.heap[NB]? = _ from HN2.out)
            have HKC := Lib.hid (show ∀ W l', MkAt W MB d prm left l' → W.cell? ⟨MB, 5, none⟩ = some (.int .i64 prm) from fun W l' h => h.c0.2.2.2)
            refine wp_region_heldP (S := fun W => W.cell? ⟨MB, 5, none⟩ = some (.int .i64 prm)) 6 (by kernel_rfl) ?_
            generalize w2.drew = wd at *
            refine tkS (i := 1) (v := ?_) (by simp only [opA, opS, op0]; exact rfl) (by kernel_rfl) (by kernel_rfl) (HKC.out _ _ HM2d.out) ?_ ?_
            rotate_left
            · intro w hS
              (try dsimp only at hS); first | (go_simp; done) | (go_simp; with_reducible rfl)
            (try simp only [ptS, stA, st0, stS])
            refine tkW (i := 2) (v := ?_) (by simp only [opA, opS, op0]; exact rfl) (by kernel_rfl) (by kernel_rfl) (fun _ => (HKC.out _ _ HM2d.out)) ?_ ?_
            rotate_left
            · intro w hS
              first | (go_simp; done) | (go_simp; with_reducible rfl)
            (try simp only [ptS, stA, st0, stS])
            refine tkW (i := 3) (v := ?_) (by simp only [opA, opS, op0]; exact rfl) (by kernel_rfl) (by kernel_rfl) (fun _ => (HKC.out _ _ HM2d.out)) ?_ ?_
            rotate_left
            · intro w hS
              first | (go_simp; done) | (go_simp; with_reducible rfl)
            (try simp only [ptS, stA, st0, stS])
            refine tkW (i := 4) (v := ?_) (by simp only [opA, opS, op0]; exact rfl) (by kernel_rfl) (by kernel_rfl) (fun _ => (HKC.out _ _ HM2d.out)) ?_ ?_
            rotate_left
            · intro w hS
              first | (go_simp; done) | (go_simp; with_reducible rfl)
            (try simp only [ptS, stA, st0, stS])
            refine tkS (i := 5) (v := ?_) (by simp only [opA, opS, op0]; exact rfl) (by kernel_rfl) (by kernel_rfl) (HKC.out _ _ HM2d.out) ?_ ?_
            rotate_left
            · intro w hS
              (try dsimp only at hS); first | (go_simp; done) | (go_simp; with_reducible rfl)
            (try simp only [ptS, stA, st0, stS])
            refine wpAnyP_ready (rs := [0]) (by kernel_rfl) (by simp) ?_
            refine (AllReadyP.cons (by simp only [opA, op0]; exact rfl) (fun K hK => ?_) AllReadyP.nil)
            rw [if_pos (by kernel_rfl)]
            have HC := Lib.hid (names_any 112 2 112 2 wd rfl rfl (by omega) (by omega))
            go_simp
            refine HC.out.mono ?_
            rintro e w3 ⟨⟨v1, rfl, ho⟩, hm⟩
            have HO3 := Lib.hid ho
            have HX3 := Lib.hid hm
            obtain ⟨oa, oc, rfl, _⟩ := owns_shape ho
            clear ho hm HC
            have HM3 := Lib.hid (HM2d.out.more HX3.out)
            have HG3 := Lib.hid (grow_trans HG2d.out (grow_more HX3.out))
            have HN3 := Lib.hid ((HX3.out.block (blk_ltD HN2d.out)).trans HN2d.out)
            try go_wp2_with fail
            refine hK.out _ _ (fun _ => (HKC.out _ _ HM3.out)) ?_
            clear hK K
            (try simp only [ptS, stA, st0, stS])
            refine wpAnyP_ready (rs := [6]) (by kernel_rfl) (by simp) ?_
            refine (AllReadyP.cons (by simp only [opA, opS, op0]; exact rfl) (fun K hK => ?_) AllReadyP.nil)
            rw [if_pos (by kernel_rfl)]
            have HC := Lib.hid (next_any MB d prm left prm l1 w3 HM3.out HPP.out.1 (by have := HPP.out.2; omega))
            have HRR := Lib.hid (show 0 ≤ (nextB l1 prm).1 ∧ (nextB l1 prm).1 < 2 from by have h1 := nextB_rng l1 HPP.out.1; have h2 := HPP.out.2; omega)
            obtain ⟨r, HRE⟩ : ∃ r : Nat, Hid ((nextB l1 prm).1 = r) := ⟨(nextB l1 prm).1.toNat, Lib.hid (by have := HRR.out; omega)⟩
            rw [HRE.out] at HC HRR HNUM
            go_simp
            refine HC.out.mono ?_
            rintro e w4 ⟨rfl, hmk, hg⟩
            have HM4 := Lib.hid hmk
            have HG4 := Lib.hid (grow_trans HG3.out hg)
            have HN4 := Lib.hid ((hg.block NB (blk_ltD HN3.out) (fun e => by have := HLT.out; have := HNB.out; injection e with e; omega)).trans HN3.out)
            have hr3 : r < 2 := by have := HRR.out; omega
            have hr3i : (r : Int) < 2 := by omega
            have HO4 := Lib.hid (owns_keep HO3.out (fun z hz => hg.block z (HO3.out.lt z hz).2 (fun e => by have := (HO3.out.lt z hz).1; have := HM2d.out.lt; injection e with e; omega)))
            clear hmk hg HC
            obtain ⟨b, off, hbo, _, _, hc⟩ := (Row.of_owns HO4.out).at (by omega)
            subst hbo
            have e0 : w4.cell? ⟨b, off + r, none⟩ = some (.string (nmB 112 r)) := by
              have h := hc r (.string (nmB 112 r)) (by unfold namesL; simp [hr3])
              simpa using h
            clear hc
            have hbe := cell_lt e0
            try go_wp2_with fail
            refine hK.out _ _ (gone (by kernel_rfl)) ?_
            clear hK K
            (try simp only [ptS, stA, st0, stS])
            refine tkW (i := 7) (v := ?_) (by simp only [opA, opS, op0]; exact rfl) (by kernel_rfl) (by kernel_rfl) (gone (by kernel_rfl)) ?_ ?_
            rotate_left
            · intro w hS
              first | (go_simp; done) | (go_simp; with_reducible rfl)
            (try simp only [ptS, stA, st0, stS])
            refine wpAnyP_ready (rs := [8]) (by kernel_rfl) (by simp) ?_
            refine (AllReadyP.cons (by simp only [opA, opS, op0]; exact rfl) (fun K hK => ?_) AllReadyP.nil)
            rw [if_pos (by kernel_rfl)]
            go_simp
            rw [Int.toNat_natCast] at HNUM
            obtain ⟨nm, HNM⟩ : ∃ s, Hid (nmB 112 r = s) := ⟨_, Lib.hid rfl⟩
            have HNZ := Lib.hid (show nm.size ≤ 2 by rw [← HNM.out]; exact Nat.le_refl _)
            rw [HNM.out] at HNUM ⊢
            clear e0 hbe
            refine hK.out _ _ (gone (by kernel_rfl)) ?_
            clear hK K
            (try simp only [ptS, stA, st0, stS])
            refine tkW (i := 9) (v := ?_) (by simp only [opA, opS, op0]; exact rfl) (by kernel_rfl) (by kernel_rfl) (gone (by kernel_rfl)) ?_ ?_
            rotate_left
            · intro w hS
              first | (go_simp; done) | (go_simp; with_reducible rfl)
            (try simp only [ptS, stA, st0, stS])
            refine wpAnyP_ready (rs := [10]) (by kernel_rfl) (by simp) ?_
            refine (AllReadyP.cons (by simp only [opA, opS, op0]; exact rfl) (fun K hK => ?_) AllReadyP.nil)
            rw [if_pos (by kernel_rfl)]
            have n0 : w4.cell? ⟨NB, 0, none⟩ = some (.int .i64 0) := by simp [World.cell?, HN4.out]
            have f0 := thaw HN4.out 0
            have n1 : w4.cell? ⟨NB, 1, none⟩ = some (.string ⟨#[]⟩) := by simp [World.cell?, HN4.out]
            have f1 := thaw HN4.out 1
            have n2 : w4.cell? ⟨NB, 2, none⟩ = some (.int .i64 0) := by simp [World.cell?, HN4.out]
            have f2 := thaw HN4.out 2
            have n3 : w4.cell? ⟨NB, 3, none⟩ = some (.slice none 0 0) := by simp [World.cell?, HN4.out]
            have f3 := thaw HN4.out 3
            have hbn := cell_lt n0
            go_simp
            refine hK.out _ _ (gone (by kernel_rfl)) ?_
            clear hK K
            (try simp only [ptN])
            refine wpAnyP_done (by kernel_rfl) ?_ _
            go_wp2_with fail
            have HW := set4D HN4.out (.int .i64 5) (.string nm) (.int .i64 0) (.slice none 0 0)
            refine bodyPost_ret (v := .agg #[.int .i64 5, .string nm, .int .i64 0, .slice none 0 0]) (results_cell_row Try.results155 _ _ NB 36 _ (0, 0) _ rfl HW Try.underlying36 rfl (by kernel_rfl)) rfl ?_
            rw [← HNUM.out]
            exact exp_fin HNB.out HLT.out HG4.out HM4.out HN4.out (flds_small (by omega) (by omega) (by omega) (by omega) HNZ.out (by simp)) (RepS.nil _ _ _)
        · rw [if_neg hC] at HNUM
          have hk5' : 5 ≤ k := by omega
          clear hB
          by_cases hD : k = 5
          · rw [if_pos hD] at HNUM
            by_cases hdp : 2 < dp
            · have hk5 : k ≤ 5 := by omega
              clear hA
              subst hD
              have n0 : w2.cell? ⟨NB, 0, none⟩ = some (.int .i64 0) := by simp [World.cell?, HN2.out]
              have f0 := thaw HN2.out 0
              have n1 : w2.cell? ⟨NB, 1, none⟩ = some (.string ⟨#[]⟩) := by simp [World.cell?, HN2.out]
              have f1 := thaw HN2.out 1
              have n2 : w2.cell? ⟨NB, 2, none⟩ = some (.int .i64 0) := by simp [World.cell?, HN2.out]
              have f2 := thaw HN2.out 2
              have n3 : w2.cell? ⟨NB, 3, none⟩ = some (.slice none 0 0) := by simp [World.cell?, HN2.out]
              have f3 := thaw HN2.out 3
              have hbn := cell_lt n0
              go_wp2_with fail
              have HW := set4D HN2.out (.int .i64 4) (.string ⟨#[]⟩) (.int .i64 0) (.slice none 0 0)
              refine bodyPost_ret (v := .agg #[.int .i64 4, .string ⟨#[]⟩, .int .i64 0, .slice none 0 0]) (results_cell_row Try.results155 _ _ NB 36 _ (0, 0) _ rfl HW Try.underlying36 rfl (by kernel_rfl)) rfl ?_
              rw [← HNUM.out]
              exact exp_fin HNB.out HLT.out HG2.out HM2.out HN2.out (flds_small (by omega) (by omega) (by omega) (by omega) (by decide) (by simp)) (RepS.nil _ _ _)
            · have hdp2 : dp ≤ 2 := by omega
              clear hA hdp
              subst hD
              have n0 : w2.cell? ⟨NB, 0, none⟩ = some (.int .i64 0) := by simp [World.cell?, HN2.out]
              have f0 := thaw HN2.out 0
              have n1 : w2.cell? ⟨NB, 1, none⟩ = some (.string ⟨#[]⟩) := by simp [World.cell?, HN2.out]
              have f1 := thaw HN2.out 1
              have n2 : w2.cell? ⟨NB, 2, none⟩ = some (.int .i64 0) := by simp [World.cell?, HN2.out]
              have f2 := thaw HN2.out 2
              have n3 : w2.cell? ⟨NB, 3, none⟩ = some (.slice none 0 0) := by simp [World.cell?, HN2.out]
              have f3 := thaw HN2.out 3
              have hbn := cell_lt n0
              go_wp2_with fail
              have HW := set4D HN2.out (.int .i64 4) (.string ⟨#[]⟩) (.int .i64 0) (.slice none 0 0)
              refine bodyPost_ret (v := .agg #[.int .i64 4, .string ⟨#[]⟩, .int .i64 0, .slice none 0 0]) (results_cell_row Try.results155 _ _ NB 36 _ (0, 0) _ rfl HW Try.underlying36 rfl (by kernel_rfl)) rfl ?_
              rw [← HNUM.out]
              exact exp_fin HNB.out HLT.out HG2.out HM2.out HN2.out (flds_small (by omega) (by omega) (by omega) (by omega) (by decide) (by simp)) (RepS.nil _ _ _)
          · rw [if_neg hD] at HNUM
            have hk6 : 6 ≤ k := by omega
            have hdp2 : dp ≤ 2 := by omega
            clear hA hC hk5' hA2
            have HFP := Lib.hid (show dp + 1 + (f : Int) = 4 ∧ 0 ≤ dp + 1 ∧ 0 < f from by have := HF.out; omega)
            by_cases hE : k = 6 ∧ 0 < d.tables
            · rw [if_pos hE] at HNUM
              obtain ⟨hE1, hE2⟩ := hE
              subst hE1
              have HCR := Lib.hid (IH.out MB d prm left (dp + 1) l1 w2 HM2.out HD.out HFP.out.1 HFP.out.2.1 HFP.out.2.2)
              obtain ⟨t3, l2, hR⟩ : ∃ t r, numF d prm f (dp + 1) l1 = (t, r) := ⟨_, _, rfl⟩
              rw [hR] at HCR HNUM
              dsimp only at HNUM
              clear hR
              go_wp2_with fail
              refine HCR.out.mono ?_
              rintro e w3 ⟨c3, rfl, hf, hr, hmk, hg⟩
              have HFl3 := Lib.hid hf
              have HRp3 := Lib.hid hr
              have HM3 := Lib.hid hmk
              have HG3 := Lib.hid (grow_trans HG2.out hg)
              have HGl3 := Lib.hid hg
              have HN3 := Lib.hid ((hg.block NB (blk_ltD HN2.out) (fun e => by have := HLT.out; have := HNB.out; injection e with e; omega)).trans HN2.out)
              obtain ⟨ca3, cc3, hsh⟩ := hr.shape
              dsimp only at hsh
              subst hsh
              clear hf hr hmk hg HCR
              unfold agg
              have n0 : w3.cell? ⟨NB, 0, none⟩ = some (.int .i64 0) := by simp [World.cell?, HN3.out]
              have f0 := thaw HN3.out 0
              have n1 : w3.cell? ⟨NB, 1, none⟩ = some (.string ⟨#[]⟩) := by simp [World.cell?, HN3.out]
              have f1 := thaw HN3.out 1
              have n2 : w3.cell? ⟨NB, 2, none⟩ = some (.int .i64 0) := by simp [World.cell?, HN3.out]
              have f2 := thaw HN3.out 2
              have n3 : w3.cell? ⟨NB, 3, none⟩ = some (.slice none 0 0) := by simp [World.cell?, HN3.out]
              have f3 := thaw HN3.out 3
              have hbn := cell_lt n0
              go_wp2_with fail
              have HW := set4D HN3.out (.int .i64 6) (.string ⟨#[116, 48]⟩) (.int .i64 0) ((.slice (some ⟨w3.heap.size, 0, none⟩) 1 1))
              refine bodyPost_ret (v := .agg #[.int .i64 6, .string ⟨#[116, 48]⟩, .int .i64 0, (.slice (some ⟨w3.heap.size, 0, none⟩) 1 1)]) (results_cell_row Try.results155 _ _ NB 36 _ (0, 0) _ rfl (((more_allocD _ _).block (blk_ltD HW)).trans HW) Try.underlying36 rfl (by kernel_rfl)) rfl ?_
              rw [← HNUM.out]
              exact exp_finA HNB.out HLT.out HG3.out HM3.out (flds_small (by omega) (by omega) (by omega) (by omega) (by decide) (by simp)) (rep1D new4 (blk_ltD HN3.out) HFl3.out (kid4 (blk_ltD HN2.out) HRp3.out))
            · rw [if_neg hE] at HNUM
              by_cases hF : k = 7 ∧ 0 < d.tables
              · rw [if_pos hF] at HNUM
                obtain ⟨hF1, hF2⟩ := hF
                subst hF1
                have n0 : w2.cell? ⟨NB, 0, none⟩ = some (.int .i64 0) := by simp [World.cell?, HN2.out]
                have f0 := thaw HN2.out 0
                have n1 : w2.cell? ⟨NB, 1, none⟩ = some (.string ⟨#[]⟩) := by simp [World.cell?, HN2.out]
                have f1 := thaw HN2.out 1
                have n2 : w2.cell? ⟨NB, 2, none⟩ = some (.int .i64 0) := by simp [World.cell?, HN2.out]
                have f2 := thaw HN2.out 2
                have n3 : w2.cell? ⟨NB, 3, none⟩ = some (.slice none 0 0) := by simp [World.cell?, HN2.out]
                have f3 := thaw HN2.out 3
                have hbn := cell_lt n0
                go_wp2_with fail
                have HW := set4D HN2.out (.int .i64 8) (.string ⟨#[116, 48]⟩) (.int .i64 0) (.slice none 0 0)
                refine bodyPost_ret (v := .agg #[.int .i64 8, .string ⟨#[116, 48]⟩, .int .i64 0, .slice none 0 0]) (results_cell_row Try.results155 _ _ NB 36 _ (0, 0) _ rfl HW Try.underlying36 rfl (by kernel_rfl)) rfl ?_
                rw [← HNUM.out]
                exact exp_fin HNB.out HLT.out HG2.out HM2.out HN2.out (flds_small (by omega) (by omega) (by omega) (by omega) (by decide) (by simp)) (RepS.nil _ _ _)
              · rw [if_neg hF] at HNUM
                by_cases hG : k = 8
                · rw [if_pos hG] at HNUM
                  subst hG
                  have HCR := Lib.hid (IH.out MB d prm left (dp + 1) l1 w2 HM2.out HD.out HFP.out.1 HFP.out.2.1 HFP.out.2.2)
                  obtain ⟨t3, l2, hR⟩ : ∃ t r, numF d prm f (dp + 1) l1 = (t, r) := ⟨_, _, rfl⟩
                  rw [hR] at HCR HNUM
                  dsimp only at HNUM
                  clear hR
                  go_wp2_with fail
                  refine HCR.out.mono ?_
                  rintro e w3 ⟨c3, rfl, hf, hr, hmk, hg⟩
                  have HFl3 := Lib.hid hf
                  have HRp3 := Lib.hid hr
                  have HM3 := Lib.hid hmk
                  have HG3 := Lib.hid (grow_trans HG2.out hg)
                  have HGl3 := Lib.hid hg
                  have HN3 := Lib.hid ((hg.block NB (blk_ltD HN2.out) (fun e => by have := HLT.out; have := HNB.out; injection e with e; omega)).trans HN2.out)
                  obtain ⟨ca3, cc3, hsh⟩ := hr.shape
                  dsimp only at hsh
                  subst hsh
                  clear hf hr hmk hg HCR
                  unfold agg
                  have n0 : w3.cell? ⟨NB, 0, none⟩ = some (.int .i64 0) := by simp [World.cell?, HN3.out]
                  have f0 := thaw HN3.out 0
                  have n1 : w3.cell? ⟨NB, 1, none⟩ = some (.string ⟨#[]⟩) := by simp [World.cell?, HN3.out]
                  have f1 := thaw HN3.out 1
                  have n2 : w3.cell? ⟨NB, 2, none⟩ = some (.int .i64 0) := by simp [World.cell?, HN3.out]
                  have f2 := thaw HN3.out 2
                  have n3 : w3.cell? ⟨NB, 3, none⟩ = some (.slice none 0 0) := by simp [World.cell?, HN3.out]
                  have f3 := thaw HN3.out 3
                  have hbn := cell_lt n0
                  go_wp2_with fail
                  have HW := set4D HN3.out (.int .i64 9) (.string ⟨#[]⟩) (.int .i64 0) ((.slice (some ⟨w3.heap.size, 0, none⟩) 1 1))
                  refine bodyPost_ret (v := .agg #[.int .i64 9, .string ⟨#[]⟩, .int .i64 0, (.slice (some ⟨w3.heap.size, 0, none⟩) 1 1)]) (results_cell_row Try.results155 _ _ NB 36 _ (0, 0) _ rfl (((more_allocD _ _).block (blk_ltD HW)).trans HW) Try.underlying36 rfl (by kernel_rfl)) rfl ?_
                  rw [← HNUM.out]
                  exact exp_finA HNB.out HLT.out HG3.out HM3.out (flds_small (by omega) (by omega) (by omega) (by omega) (by decide) (by simp)) (rep1D new4 (blk_ltD HN3.out) HFl3.out (kid4 (blk_ltD HN2.out) HRp3.out))
                · rw [if_neg hG] at HNUM
                  skip
                  have hH : (k = 6 ∧ d.tables ≤ 0) ∨ (k = 7 ∧ d.tables ≤ 0) ∨ 9 ≤ k := by omega
                  clear hE hF hG
                  have HA16 := Lib.hid (more_allocD w2 (.cells #[.int .i64 14, .int .i64 15, .int .i64 11, .int .i64 12, .int .i64 13, .int .i64 14] 3))
                  have HB16 := Lib.hid (alloc_last w2 (.cells #[.int .i64 14, .int .i64 15, .int .i64 11, .int .i64 12, .int .i64 13, .int .i64 14] 3))
                  have HM16 := Lib.hid (HM2.out.more HA16.out)
                  have HG16 := Lib.hid (grow_trans HG2.out (grow_more HA16.out))
                  have HN16 := Lib.hid ((HA16.out.block (blk_ltD HN2.out)).trans HN2.out)
                  have HC16 := Lib.hid (next_any MB d prm left 6 l1 _ HM16.out (by omega) (by omega))
                  have HR16 := Lib.hid (nextB_rng l1 (n := 6) (by omega))
                  obtain ⟨ji, l2, hjl⟩ : ∃ v l2, nextB l1 6 = (v, l2) := ⟨_, _, rfl⟩
                  rw [hjl] at HC16 HR16 HNUM
                  dsimp only at HC16 HR16 HNUM
                  clear hjl
                  obtain ⟨j, hj⟩ : ∃ j : Nat, ji = j := ⟨ji.toNat, by have := HR16.out.1; omega⟩
                  subst hj
                  have hj6 : j < 6 := by have := HR16.out.2; omega
                  have hj6i : (j : Int) < 6 := by omega
                  have HOB := Lib.hid (opsN_rng (j : Int))
                  have HOC := Lib.hid (opsN_cell hj6)
                  obtain ⟨op, HOP⟩ : ∃ o, Hid (opsN (j : Int) = o) := ⟨_, Lib.hid rfl⟩
                  rw [HOP.out] at HNUM HOB HOC
                  have HDP := Lib.hid (And.intro h0 hdp2)
                  rcases hH with ⟨hk, ht⟩ | ⟨hk, ht⟩ | hk9
                  · subst hk
                    have htl : decide (0 < d.tables) = false := decide_eq_false (by omega)
                    go_wp2_with fail
                    generalize w2.alloc (.cells #[.int .i64 14, .int .i64 15, .int .i64 11, .int .i64 12, .int .i64 13, .int .i64 14] 3) = w16 at *
                    obtain ⟨OB, HOBE⟩ : ∃ B, Hid (B = w2.heap.size) := ⟨_, Lib.hid rfl⟩
                    rw [← HOBE.out] at HB16
                    try rw [← HOBE.out]
                    refine HC16.out.mono ?_
                    rintro e w3 ⟨rfl, hmk, hg⟩
                    have HM3 := Lib.hid hmk
                    have HG3 := Lib.hid (grow_trans HG16.out hg)
                    have HN3 := Lib.hid ((hg.block NB (blk_ltD HN16.out) (fun e => by have := HLT.out; have := HNB.out; injection e with e; omega)).trans HN16.out)
                    have HB3 := Lib.hid ((hg.block OB (blk_ltD HB16.out) (fun e => by have := HM2.out.lt; have := HOBE.out; injection e with e; omega)).trans HB16.out)
                    clear hmk hg HC16
                    have e0 : w3.cell? ⟨OB, j, none⟩ = some (.int .i64 op) := by
                      rw [← HOC.out]
                      simp [World.cell?, HB3.out]
                    have hbe := cell_lt e0
                    have HCR := Lib.hid (IH.out MB d prm left (dp + 1) l2 w3 HM3.out HD.out HFP.out.1 HFP.out.2.1 HFP.out.2.2)
                    obtain ⟨t4, l4, hR⟩ : ∃ t r, numF d prm f (dp + 1) l2 = (t, r) := ⟨_, _, rfl⟩
                    rw [hR] at HCR HNUM
                    dsimp only at HNUM
                    clear hR
                    go_wp2_with fail
                    refine HCR.out.mono ?_
                    rintro e w4 ⟨c4, rfl, hf, hr, hmk, hg⟩
                    have HFl4 := Lib.hid hf
                    have HRp4 := Lib.hid hr
                    have HM4 := Lib.hid hmk
                    have HG4 := Lib.hid (grow_trans HG3.out hg)
                    have HGl4 := Lib.hid hg
                    have HN4 := Lib.hid ((hg.block NB (blk_ltD HN3.out) (fun e => by have := HLT.out; have := HNB.out; injection e with e; omega)).trans HN3.out)
                    obtain ⟨ca4, cc4, hsh⟩ := hr.shape
                    dsimp only at hsh
                    subst hsh
                    clear hf hr hmk hg HCR
                    unfold agg
                    clear e0 hbe
                    have HA5 := Lib.hid (more_allocD w4 (.cells #[.int .i64 t4.op, .string t4.name, .int .i64 t4.n, .slice ca4 t4.args.length cc4] 36))
                    have HX5 := Lib.hid (alloc_last w4 (.cells #[.int .i64 t4.op, .string t4.name, .int .i64 t4.n, .slice ca4 t4.args.length cc4] 36))
                    go_upto_region 18 with fail
                    generalize w4.alloc (.cells #[.int .i64 t4.op, .string t4.name, .int .i64 t4.n, .slice ca4 t4.args.length cc4] 36) = w5 at *
                    obtain ⟨TB, HTB⟩ : ∃ B, Hid (B = w4.heap.size) := ⟨_, Lib.hid rfl⟩
                    rw [← HTB.out] at HX5 ⊢
                    have HM5 := Lib.hid (HM4.out.more (more_trans HA5.out (more_drew w5)))
                    have HG5 := Lib.hid (grow_trans HG4.out (grow_more (more_trans HA5.out (more_drew w5))))
                    have HN5 := Lib.hid (show w5.drew.heap[NB]? = _ from (HA5.out.block (blk_ltD HN4.out)).trans HN4.out)
                    have HX5d := Lib.hid (show w5.drew.heap[TB]? = _ from HX5.out)
                    have HRp5 := Lib.hid (show RepS .i64 (fun b => NB < b ∧ b < TB) w5.drew f t4.args (.slice ca4 t4.args.length cc4) from HRp4.out.mono2 (fun b off u hb hc => ⟨⟨by have := blk_ltD HN3.out; omega, by have h8 : b < w4.heap.size := World.block_lt_of_cell? w4 ⟨b, off, none⟩ hc; have := HTB.out; omega⟩, (more_trans HA5.out (more_drew w5)).cell hc⟩) (Nat.le_refl _))
                    have HKT := Lib.hid (show ∀ W : World, W.heap[TB]? = some (.cells #[.int .i64 t4.op, .string t4.name, .int .i64 t4.n, .slice ca4 t4.args.length cc4] 36) → (W.cell? ⟨TB, 0, none⟩ = some (.int .i64 t4.op) ∧ W.cell? ⟨TB, 1, none⟩ = some (.string t4.name) ∧ W.cell? ⟨TB, 2, none⟩ = some (.int .i64 t4.n) ∧ W.cell? ⟨TB, 3, none⟩ = some (.slice ca4 t4.args.length cc4)) from fun W h => ⟨by simp [World.cell?, h], by simp [World.cell?, h], by simp [World.cell?, h], by simp [World.cell?, h]⟩)
                    have hbt := blk_ltD HX5d.out
                    obtain ⟨hdp0, hdp9⟩ := HDP.out
                    have hwr : IntKind.i64.wrap (dp + 1) = dp + 1 := by rw [IntKind.wrap_i64]; omega
                    skip
                    refine wp_region_heldP (S := fun W => W.cell? ⟨TB, 0, none⟩ = some (.int .i64 t4.op) ∧ W.cell? ⟨TB, 1, none⟩ = some (.string t4.name) ∧ W.cell? ⟨TB, 2, none⟩ = some (.int .i64 t4.n) ∧ W.cell? ⟨TB, 3, none⟩ = some (.slice ca4 t4.args.length cc4)) 8 (by kernel_rfl) ?_
                    generalize w5.drew = wd at *
                    refine tkS (i := 0) (v := ?_) (by simp only [opA, op0]; exact rfl) (by kernel_rfl) (by kernel_rfl) (HKT.out _ HX5d.out) ?_ ?_
                    rotate_left
                    · intro w hS
                      (try dsimp only at hS); first | (go_simp; done) | (go_simp; with_reducible rfl)
                    (try simp only [ptS, stA, st0, stS])
                    refine tkS (i := 1) (v := ?_) (by simp only [opA, opS, op0]; exact rfl) (by kernel_rfl) (by kernel_rfl) (HKT.out _ HX5d.out) ?_ ?_
                    rotate_left
                    · intro w hS
                      (try dsimp only at hS); first | (go_simp; done) | (go_simp; with_reducible rfl)
                    (try simp only [ptS, stA, st0, stS])
                    refine tkS (i := 2) (v := ?_) (by simp only [opA, opS, op0]; exact rfl) (by kernel_rfl) (by kernel_rfl) (HKT.out _ HX5d.out) ?_ ?_
                    rotate_left
                    · intro w hS
                      (try dsimp only at hS); first | (go_simp; done) | (go_simp; with_reducible rfl)
                    (try simp only [ptS, stA, st0, stS])
                    refine tkS (i := 3) (v := ?_) (by simp only [opA, opS, op0]; exact rfl) (by kernel_rfl) (by kernel_rfl) (HKT.out _ HX5d.out) ?_ ?_
                    rotate_left
                    · intro w hS
                      (try dsimp only at hS); first | (go_simp; done) | (go_simp; with_reducible rfl)
                    (try simp only [ptS, stA, st0, stS])
                    refine tkS (i := 4) (v := ?_) (by simp only [opA, opS, op0]; exact rfl) (by kernel_rfl) (by kernel_rfl) (HKT.out _ HX5d.out) ?_ ?_
                    rotate_left
                    · intro w hS
                      (try dsimp only at hS); first | (go_simp; done) | (go_simp; with_reducible rfl)
                    (try simp only [ptS, stA, st0, stS])
                    refine wpAnyP_ready (rs := [5]) (by kernel_rfl) (by simp) ?_
                    refine (AllReadyP.cons (by simp only [opA, opS, op0]; exact rfl) (fun K hK => ?_) AllReadyP.nil)
                    rw [if_pos (by kernel_rfl)]
                    have HCR := Lib.hid (IH.out MB d prm left (dp + 1) l4 wd HM5.out HD.out HFP.out.1 HFP.out.2.1 HFP.out.2.2)
                    obtain ⟨t6, l6, hR⟩ : ∃ t r, numF d prm f (dp + 1) l4 = (t, r) := ⟨_, _, rfl⟩
                    rw [hR] at HCR HNUM
                    dsimp only at HNUM
                    clear hR
                    go_simp
                    refine HCR.out.mono ?_
                    rintro e w6 ⟨c6, rfl, hf, hr, hmk, hg⟩
                    have HFl6 := Lib.hid hf
                    have HM6 := Lib.hid hmk
                    have HG6 := Lib.hid (grow_trans HG5.out hg)
                    have HN6 := Lib.hid ((hg.block NB (blk_ltD HN5.out) (fun e => by have := HLT.out; have := HNB.out; injection e with e; omega)).trans HN5.out)
                    have HT6 := Lib.hid ((hg.block TB (blk_ltD HX5d.out) (fun e => by have := HM4.out.lt; have := HTB.out; injection e with e; omega)).trans HX5d.out)
                    have HRp6 := Lib.hid (show RepS .i64 (fun b => NB < b) w6 f t6.args c6 from hr.mono (fun b hb => by have := blk_ltD HN5.out; omega) (fun _ _ _ _ hc => hc) (Nat.le_refl _))
                    have HRq6 := Lib.hid (show RepS .i64 (fun b => NB < b) w6 f t4.args (.slice ca4 t4.args.length cc4) from HRp5.out.mono2 (fun b off u hb hc => ⟨hb.1, by rw [World.cell?_of_block (a := ⟨b, off, none⟩) (hg.block b (World.block_lt_of_cell? wd ⟨b, off, none⟩ hc) (fun e => by have := HLT.out; have := HNB.out; have := hb.1; injection e with e; omega))]; exact hc⟩) (Nat.le_refl _))
                    obtain ⟨ca6, cc6, hsh⟩ := hr.shape
                    dsimp only at hsh
                    subst hsh
                    clear hf hr hmk hg HCR
                    unfold agg
                    try go_wp2_with fail
                    refine hK.out _ _ (fun _ => (HKT.out _ HT6.out)) ?_
                    clear hK K
                    (try simp only [ptS, stA, st0, stS])
                    refine wpAnyP_ready (rs := [6]) (by kernel_rfl) (by simp) ?_
                    refine (AllReadyP.cons (by simp only [opA, opS, op0]; exact rfl) (fun K hK => ?_) AllReadyP.nil)
                    rw [if_pos (by kernel_rfl)]
                    have HA7 := Lib.hid (more_allocD w6 (.cells #[.int .i64 t4.op, .string t4.name, .int .i64 t4.n, .slice ca4 t4.args.length cc4, .int .i64 t6.op, .string t6.name, .int .i64 t6.n, .slice ca6 t6.args.length cc6] 36))
                    have HB7 := Lib.hid (alloc_last w6 (.cells #[.int .i64 t4.op, .string t4.name, .int .i64 t4.n, .slice ca4 t4.args.length cc4, .int .i64 t6.op, .string t6.name, .int .i64 t6.n, .slice ca6 t6.args.length cc6] 36))
                    obtain ⟨B7, HE7⟩ : ∃ B, Hid (B = w6.heap.size) := ⟨_, Lib.hid rfl⟩
                    go_simp
                    rw [← HE7.out] at HB7 ⊢
                    generalize w6.alloc (.cells #[.int .i64 t4.op, .string t4.name, .int .i64 t4.n, .slice ca4 t4.args.length cc4, .int .i64 t6.op, .string t6.name, .int .i64 t6.n, .slice ca6 t6.args.length cc6] 36) = w7 at *
                    have HM7 := Lib.hid (HM6.out.more HA7.out)
                    have HG7 := Lib.hid (grow_trans HG6.out (grow_more HA7.out))
                    have HN7 := Lib.hid ((HA7.out.block (blk_ltD HN6.out)).trans HN6.out)
                    have HT7 := Lib.hid ((HA7.out.block (blk_ltD HT6.out)).trans HT6.out)
                    have HRQ := Lib.hid (rep2D (S := fun b => NB < b) HB7.out (by rw [HE7.out]; exact blk_ltD HN6.out) HFl4.out (HRq6.out.mono (fun _ k => k) (fun _ _ _ _ hc => HA7.out.cell hc) (Nat.le_refl _)) HFl6.out (HRp6.out.mono (fun _ k => k) (fun _ _ _ _ hc => HA7.out.cell hc) (Nat.le_refl _)))
                    refine hK.out _ _ (fun _ => (HKT.out _ HT7.out)) ?_
                    clear hK K
                    (try simp only [ptS, stA, st0, stS])
                    refine tkS (i := 7) (v := ?_) (by simp only [opA, opS, op0]; exact rfl) (by kernel_rfl) (by kernel_rfl) (HKT.out _ HT7.out) ?_ ?_
                    rotate_left
                    · intro w hS
                      (try dsimp only at hS); first | (go_simp; done) | (go_simp; with_reducible rfl)
                    (try simp only [ptS, stA, st0, stS])
                    refine wpAnyP_ready (rs := [8]) (by kernel_rfl) (by simp) ?_
                    refine (AllReadyP.cons (by simp only [opA, opS, op0]; exact rfl) (fun K hK => ?_) AllReadyP.nil)
                    rw [if_pos (by kernel_rfl)]
                    have n0 : w7.cell? ⟨NB, 0, none⟩ = some (.int .i64 0) := by simp [World.cell?, HN7.out]
                    have f0 := thaw HN7.out 0
                    have n1 : w7.cell? ⟨NB, 1, none⟩ = some (.string ⟨#[]⟩) := by simp [World.cell?, HN7.out]
                    have f1 := thaw HN7.out 1
                    have n2 : w7.cell? ⟨NB, 2, none⟩ = some (.int .i64 0) := by simp [World.cell?, HN7.out]
                    have f2 := thaw HN7.out 2
                    have n3 : w7.cell? ⟨NB, 3, none⟩ = some (.slice none 0 0) := by simp [World.cell?, HN7.out]
                    have f3 := thaw HN7.out 3
                    have hbn := cell_lt n0
                    go_simp
                    refine hK.out _ _ (gone (by kernel_rfl)) ?_
                    clear hK K
                    (try simp only [ptN])
                    refine wpAnyP_done (by kernel_rfl) ?_ _
                    go_wp2_with fail
                    have HW := set4D HN7.out (.int .i64 op) (.string ⟨#[]⟩) (.int .i64 0) (.slice (some ⟨B7, 0, none⟩) 2 2)
                    refine bodyPost_ret (v := .agg #[.int .i64 op, .string ⟨#[]⟩, .int .i64 0, .slice (some ⟨B7, 0, none⟩) 2 2]) (results_cell_row Try.results155 _ _ NB 36 _ (0, 0) _ rfl HW Try.underlying36 rfl (by kernel_rfl)) rfl ?_
                    rw [← HNUM.out]
                    exact exp_fin HNB.out HLT.out HG7.out HM7.out HN7.out (flds_small HOB.out.1 HOB.out.2 (by omega) (by omega) (by decide) (by simp)) HRQ.out
                  · subst hk
                    have htl : decide (0 < d.tables) = false := decide_eq_false (by omega)
                    go_wp2_with fail
                    generalize w2.alloc (.cells #[.int .i64 14, .int .i64 15, .int .i64 11, .int .i64 12, .int .i64 13, .int .i64 14] 3) = w16 at *
                    obtain ⟨OB, HOBE⟩ : ∃ B, Hid (B = w2.heap.size) := ⟨_, Lib.hid rfl⟩
                    rw [← HOBE.out] at HB16
                    try rw [← HOBE.out]
                    refine HC16.out.mono ?_
                    rintro e w3 ⟨rfl, hmk, hg⟩
                    have HM3 := Lib.hid hmk
                    have HG3 := Lib.hid (grow_trans HG16.out hg)
                    have HN3 := Lib.hid ((hg.block NB (blk_ltD HN16.out) (fun e => by have := HLT.out; have := HNB.out; injection e with e; omega)).trans HN16.out)
                    have HB3 := Lib.hid ((hg.block OB (blk_ltD HB16.out) (fun e => by have := HM2.out.lt; have := HOBE.out; injection e with e; omega)).trans HB16.out)
                    clear hmk hg HC16
                    have e0 : w3.cell? ⟨OB, j, none⟩ = some (.int .i64 op) := by
                      rw [← HOC.out]
                      simp [World.cell?, HB3.out]
                    have hbe := cell_lt e0
                    have HCR := Lib.hid (IH.out MB d prm left (dp + 1) l2 w3 HM3.out HD.out HFP.out.1 HFP.out.2.1 HFP.out.2.2)
                    obtain ⟨t4, l4, hR⟩ : ∃ t r, numF d prm f (dp + 1) l2 = (t, r) := ⟨_, _, rfl⟩
                    rw [hR] at HCR HNUM
                    dsimp only at HNUM
                    clear hR
                    go_wp2_with fail
                    refine HCR.out.mono ?_
                    rintro e w4 ⟨c4, rfl, hf, hr, hmk, hg⟩
                    have HFl4 := Lib.hid hf
                    have HRp4 := Lib.hid hr
                    have HM4 := Lib.hid hmk
                    have HG4 := Lib.hid (grow_trans HG3.out hg)
                    have HGl4 := Lib.hid hg
                    have HN4 := Lib.hid ((hg.block NB (blk_ltD HN3.out) (fun e => by have := HLT.out; have := HNB.out; injection e with e; omega)).trans HN3.out)
                    obtain ⟨ca4, cc4, hsh⟩ := hr.shape
                    dsimp only at hsh
                    subst hsh
                    clear hf hr hmk hg HCR
                    unfold agg
                    clear e0 hbe
                    have HA5 := Lib.hid (more_allocD w4 (.cells #[.int .i64 t4.op, .string t4.name, .int .i64 t4.n, .slice ca4 t4.args.length cc4] 36))
                    have HX5 := Lib.hid (alloc_last w4 (.cells #[.int .i64 t4.op, .string t4.name, .int .i64 t4.n, .slice ca4 t4.args.length cc4] 36))
                    go_upto_region 18 with fail
                    generalize w4.alloc (.cells #[.int .i64 t4.op, .string t4.name, .int .i64 t4.n, .slice ca4 t4.args.length cc4] 36) = w5 at *
                    obtain ⟨TB, HTB⟩ : ∃ B, Hid (B = w4.heap.size) := ⟨_, Lib.hid rfl⟩
                    rw [← HTB.out] at HX5 ⊢
                    have HM5 := Lib.hid (HM4.out.more (more_trans HA5.out (more_drew w5)))
                    have HG5 := Lib.hid (grow_trans HG4.out (grow_more (more_trans HA5.out (more_drew w5))))
                    have HN5 := Lib.hid (show w5.drew.heap[NB]? = _ from (HA5.out.block (blk_ltD HN4.out)).trans HN4.out)
                    have HX5d := Lib.hid (show w5.drew.heap[TB]? = _ from HX5.out)
                    have HRp5 := Lib.hid (show RepS .i64 (fun b => NB < b ∧ b < TB) w5.drew f t4.args (.slice ca4 t4.args.length cc4) from HRp4.out.mono2 (fun b off u hb hc => ⟨⟨by have := blk_ltD HN3.out; omega, by have h8 : b < w4.heap.size := World.block_lt_of_cell? w4 ⟨b, off, none⟩ hc; have := HTB.out; omega⟩, (more_trans HA5.out (more_drew w5)).cell hc⟩) (Nat.le_refl _))
                    have HKT := Lib.hid (show ∀ W : World, W.heap[TB]? = some (.cells #[.int .i64 t4.op, .string t4.name, .int .i64 t4.n, .slice ca4 t4.args.length cc4] 36) → (W.cell? ⟨TB, 0, none⟩ = some (.int .i64 t4.op) ∧ W.cell? ⟨TB, 1, none⟩ = some (.string t4.name) ∧ W.cell? ⟨TB, 2, none⟩ = some (.int .i64 t4.n) ∧ W.cell? ⟨TB, 3, none⟩ = some (.slice ca4 t4.args.length cc4)) from fun W h => ⟨by simp [World.cell?, h], by simp [World.cell?, h], by simp [World.cell?, h], by simp [World.cell?, h]⟩)
                    have hbt := blk_ltD HX5d.out
                    obtain ⟨hdp0, hdp9⟩ := HDP.out
                    have hwr : IntKind.i64.wrap (dp + 1) = dp + 1 := by rw [IntKind.wrap_i64]; omega
                    skip
                    refine wp_region_heldP (S := fun W => W.cell? ⟨TB, 0, none⟩ = some (.int .i64 t4.op) ∧ W.cell? ⟨TB, 1, none⟩ = some (.string t4.name) ∧ W.cell? ⟨TB, 2, none⟩ = some (.int .i64 t4.n) ∧ W.cell? ⟨TB, 3, none⟩ = some (.slice ca4 t4.args.length cc4)) 8 (by kernel_rfl) ?_
                    generalize w5.drew = wd at *
                    refine tkS (i := 0) (v := ?_) (by simp only [opA, op0]; exact rfl) (by kernel_rfl) (by kernel_rfl) (HKT.out _ HX5d.out) ?_ ?_
                    rotate_left
                    · intro w hS
                      (try dsimp only at hS); first | (go_simp; done) | (go_simp; with_reducible rfl)
                    (try simp only [ptS, stA, st0, stS])
                    refine tkS (i := 1) (v := ?_) (by simp only [opA, opS, op0]; exact rfl) (by kernel_rfl) (by kernel_rfl) (HKT.out _ HX5d.out) ?_ ?_
                    rotate_left
                    · intro w hS
                      (try dsimp only at hS); first | (go_simp; done) | (go_simp; with_reducible rfl)
                    (try simp only [ptS, stA, st0, stS])
                    refine tkS (i := 2) (v := ?_) (by simp only [opA, opS, op0]; exact rfl) (by kernel_rfl) (by kernel_rfl) (HKT.out _ HX5d.out) ?_ ?_
                    rotate_left
                    · intro w hS
                      (try dsimp only at hS); first | (go_simp; done) | (go_simp; with_reducible rfl)
                    (try simp only [ptS, stA, st0, stS])
                    refine tkS (i := 3) (v := ?_) (by simp only [opA, opS, op0]; exact rfl) (by kernel_rfl) (by kernel_rfl) (HKT.out _ HX5d.out) ?_ ?_
                    rotate_left
                    · intro w hS
                      (try dsimp only at hS); first | (go_simp; done) | (go_simp; with_reducible rfl)
                    (try simp only [ptS, stA, st0, stS])
                    refine tkS (i := 4) (v := ?_) (by simp only [opA, opS, op0]; exact rfl) (by kernel_rfl) (by kernel_rfl) (HKT.out _ HX5d.out) ?_ ?_
                    rotate_left
                    · intro w hS
                      (try dsimp only at hS); first | (go_simp; done) | (go_simp; with_reducible rfl)
                    (try simp only [ptS, stA, st0, stS])
                    refine wpAnyP_ready (rs := [5]) (by kernel_rfl) (by simp) ?_
                    refine (AllReadyP.cons (by simp only [opA, opS, op0]; exact rfl) (fun K hK => ?_) AllReadyP.nil)
                    rw [if_pos (by kernel_rfl)]
                    have HCR := Lib.hid (IH.out MB d prm left (dp + 1) l4 wd HM5.out HD.out HFP.out.1 HFP.out.2.1 HFP.out.2.2)
                    obtain ⟨t6, l6, hR⟩ : ∃ t r, numF d prm f (dp + 1) l4 = (t, r) := ⟨_, _, rfl⟩
                    rw [hR] at HCR HNUM
                    dsimp only at HNUM
                    clear hR
                    go_simp
                    refine HCR.out.mono ?_
                    rintro e w6 ⟨c6, rfl, hf, hr, hmk, hg⟩
                    have HFl6 := Lib.hid hf
                    have HM6 := Lib.hid hmk
                    have HG6 := Lib.hid (grow_trans HG5.out hg)
                    have HN6 := Lib.hid ((hg.block NB (blk_ltD HN5.out) (fun e => by have := HLT.out; have := HNB.out; injection e with e; omega)).trans HN5.out)
                    have HT6 := Lib.hid ((hg.block TB (blk_ltD HX5d.out) (fun e => by have := HM4.out.lt; have := HTB.out; injection e with e; omega)).trans HX5d.out)
                    have HRp6 := Lib.hid (show RepS .i64 (fun b => NB < b) w6 f t6.args c6 from hr.mono (fun b hb => by have := blk_ltD HN5.out; omega) (fun _ _ _ _ hc => hc) (Nat.le_refl _))
                    have HRq6 := Lib.hid (show RepS .i64 (fun b => NB < b) w6 f t4.args (.slice ca4 t4.args.length cc4) from HRp5.out.mono2 (fun b off u hb hc => ⟨hb.1, by rw [World.cell?_of_block (a := ⟨b, off, none⟩) (hg.block b (World.block_lt_of_cell? wd ⟨b, off, none⟩ hc) (fun e => by have := HLT.out; have := HNB.out; have := hb.1; injection e with e; omega))]; exact hc⟩) (Nat.le_refl _))
                    obtain ⟨ca6, cc6, hsh⟩ := hr.shape
                    dsimp only at hsh
                    subst hsh
                    clear hf hr hmk hg HCR
                    unfold agg
                    try go_wp2_with fail
                    refine hK.out _ _ (fun _ => (HKT.out _ HT6.out)) ?_
                    clear hK K
                    (try simp only [ptS, stA, st0, stS])
                    refine wpAnyP_ready (rs := [6]) (by kernel_rfl) (by simp) ?_
                    refine (AllReadyP.cons (by simp only [opA, opS, op0]; exact rfl) (fun K hK => ?_) AllReadyP.nil)
                    rw [if_pos (by kernel_rfl)]
                    have HA7 := Lib.hid (more_allocD w6 (.cells #[.int .i64 t4.op, .string t4.name, .int .i64 t4.n, .slice ca4 t4.args.length cc4, .int .i64 t6.op, .string t6.name, .int .i64 t6.n, .slice ca6 t6.args.length cc6] 36))
                    have HB7 := Lib.hid (alloc_last w6 (.cells #[.int .i64 t4.op, .string t4.name, .int .i64 t4.n, .slice ca4 t4.args.length cc4, .int .i64 t6.op, .string t6.name, .int .i64 t6.n, .slice ca6 t6.args.length cc6] 36))
                    obtain ⟨B7, HE7⟩ : ∃ B, Hid (B = w6.heap.size) := ⟨_, Lib.hid rfl⟩
                    go_simp
                    rw [← HE7.out] at HB7 ⊢
                    generalize w6.alloc (.cells #[.int .i64 t4.op, .string t4.name, .int .i64 t4.n, .slice ca4 t4.args.length cc4, .int .i64 t6.op, .string t6.name, .int .i64 t6.n, .slice ca6 t6.args.length cc6] 36) = w7 at *
                    have HM7 := Lib.hid (HM6.out.more HA7.out)
                    have HG7 := Lib.hid (grow_trans HG6.out (grow_more HA7.out))
                    have HN7 := Lib.hid ((HA7.out.block (blk_ltD HN6.out)).trans HN6.out)
                    have HT7 := Lib.hid ((HA7.out.block (blk_ltD HT6.out)).trans HT6.out)
                    have HRQ := Lib.hid (rep2D (S := fun b => NB < b) HB7.out (by rw [HE7.out]; exact blk_ltD HN6.out) HFl4.out (HRq6.out.mono (fun _ k => k) (fun _ _ _ _ hc => HA7.out.cell hc) (Nat.le_refl _)) HFl6.out (HRp6.out.mono (fun _ k => k) (fun _ _ _ _ hc => HA7.out.cell hc) (Nat.le_refl _)))
                    refine hK.out _ _ (fun _ => (HKT.out _ HT7.out)) ?_
                    clear hK K
                    (try simp only [ptS, stA, st0, stS])
                    refine tkS (i := 7) (v := ?_) (by simp only [opA, opS, op0]; exact rfl) (by kernel_rfl) (by kernel_rfl) (HKT.out _ HT7.out) ?_ ?_
                    rotate_left
                    · intro w hS
                      (try dsimp only at hS); first | (go_simp; done) | (go_simp; with_reducible rfl)
                    (try simp only [ptS, stA, st0, stS])
                    refine wpAnyP_ready (rs := [8]) (by kernel_rfl) (by simp) ?_
                    refine (AllReadyP.cons (by simp only [opA, opS, op0]; exact rfl) (fun K hK => ?_) AllReadyP.nil)
                    rw [if_pos (by kernel_rfl)]
                    have n0 : w7.cell? ⟨NB, 0, none⟩ = some (.int .i64 0) := by simp [World.cell?, HN7.out]
                    have f0 := thaw HN7.out 0
                    have n1 : w7.cell? ⟨NB, 1, none⟩ = some (.string ⟨#[]⟩) := by simp [World.cell?, HN7.out]
                    have f1 := thaw HN7.out 1
                    have n2 : w7.cell? ⟨NB, 2, none⟩ = some (.int .i64 0) := by simp [World.cell?, HN7.out]
                    have f2 := thaw HN7.out 2
                    have n3 : w7.cell? ⟨NB, 3, none⟩ = some (.slice none 0 0) := by simp [World.cell?, HN7.out]
                    have f3 := thaw HN7.out 3
                    have hbn := cell_lt n0
                    go_simp
                    refine hK.out _ _ (gone (by kernel_rfl)) ?_
                    clear hK K
                    (try simp only [ptN])
                    refine wpAnyP_done (by kernel_rfl) ?_ _
                    go_wp2_with fail
                    have HW := set4D HN7.out (.int .i64 op) (.string ⟨#[]⟩) (.int .i64 0) (.slice (some ⟨B7, 0, none⟩) 2 2)
                    refine bodyPost_ret (v := .agg #[.int .i64 op, .string ⟨#[]⟩, .int .i64 0, .slice (some ⟨B7, 0, none⟩) 2 2]) (results_cell_row Try.results155 _ _ NB 36 _ (0, 0) _ rfl HW Try.underlying36 rfl (by kernel_rfl)) rfl ?_
                    rw [← HNUM.out]
                    exact exp_fin HNB.out HLT.out HG7.out HM7.out HN7.out (flds_small HOB.out.1 HOB.out.2 (by omega) (by omega) (by decide) (by simp)) HRQ.out
                  · clear hk6
                    go_wp2_with fail
                    generalize w2.alloc (.cells #[.int .i64 14, .int .i64 15, .int .i64 11, .int .i64 12, .int .i64 13, .int .i64 14] 3) = w16 at *
                    obtain ⟨OB, HOBE⟩ : ∃ B, Hid (B = w2.heap.size) := ⟨_, Lib.hid rfl⟩
                    rw [← HOBE.out] at HB16
                    try rw [← HOBE.out]
                    refine HC16.out.mono ?_
                    rintro e w3 ⟨rfl, hmk, hg⟩
                    have HM3 := Lib.hid hmk
                    have HG3 := Lib.hid (grow_trans HG16.out hg)
                    have HN3 := Lib.hid ((hg.block NB (blk_ltD HN16.out) (fun e => by have := HLT.out; have := HNB.out; injection e with e; omega)).trans HN16.out)
                    have HB3 := Lib.hid ((hg.block OB (blk_ltD HB16.out) (fun e => by have := HM2.out.lt; have := HOBE.out; injection e with e; omega)).trans HB16.out)
                    clear hmk hg HC16
                    have e0 : w3.cell? ⟨OB, j, none⟩ = some (.int .i64 op) := by
                      rw [← HOC.out]
                      simp [World.cell?, HB3.out]
                    have hbe := cell_lt e0
                    have HCR := Lib.hid (IH.out MB d prm left (dp + 1) l2 w3 HM3.out HD.out HFP.out.1 HFP.out.2.1 HFP.out.2.2)
                    obtain ⟨t4, l4, hR⟩ : ∃ t r, numF d prm f (dp + 1) l2 = (t, r) := ⟨_, _, rfl⟩
                    rw [hR] at HCR HNUM
                    dsimp only at HNUM
                    clear hR
                    go_wp2_with fail
                    refine HCR.out.mono ?_
                    rintro e w4 ⟨c4, rfl, hf, hr, hmk, hg⟩
                    have HFl4 := Lib.hid hf
                    have HRp4 := Lib.hid hr
                    have HM4 := Lib.hid hmk
                    have HG4 := Lib.hid (grow_trans HG3.out hg)
                    have HGl4 := Lib.hid hg
                    have HN4 := Lib.hid ((hg.block NB (blk_ltD HN3.out) (fun e => by have := HLT.out; have := HNB.out; injection e with e; omega)).trans HN3.out)
                    obtain ⟨ca4, cc4, hsh⟩ := hr.shape
                    dsimp only at hsh
                    subst hsh
                    clear hf hr hmk hg HCR
                    unfold agg
                    clear e0 hbe
                    have HA5 := Lib.hid (more_allocD w4 (.cells #[.int .i64 t4.op, .string t4.name, .int .i64 t4.n, .slice ca4 t4.args.length cc4] 36))
                    have HX5 := Lib.hid (alloc_last w4 (.cells #[.int .i64 t4.op, .string t4.name, .int .i64 t4.n, .slice ca4 t4.args.length cc4] 36))
                    go_upto_region 18 with fail
                    generalize w4.alloc (.cells #[.int .i64 t4.op, .string t4.name, .int .i64 t4.n, .slice ca4 t4.args.length cc4] 36) = w5 at *
                    obtain ⟨TB, HTB⟩ : ∃ B, Hid (B = w4.heap.size) := ⟨_, Lib.hid rfl⟩
                    rw [← HTB.out] at HX5 ⊢
                    have HM5 := Lib.hid (HM4.out.more (more_trans HA5.out (more_drew w5)))
                    have HG5 := Lib.hid (grow_trans HG4.out (grow_more (more_trans HA5.out (more_drew w5))))
                    have HN5 := Lib.hid (show w5.drew.heap[NB]? = _ from (HA5.out.block (blk_ltD HN4.out)).trans HN4.out)
                    have HX5d := Lib.hid (show w5.drew.heap[TB]? = _ from HX5.out)
                    have HRp5 := Lib.hid (show RepS .i64 (fun b => NB < b ∧ b < TB) w5.drew f t4.args (.slice ca4 t4.args.length cc4) from HRp4.out.mono2 (fun b off u hb hc => ⟨⟨by have := blk_ltD HN3.out; omega, by have h8 : b < w4.heap.size := World.block_lt_of_cell? w4 ⟨b, off, none⟩ hc; have := HTB.out; omega⟩, (more_trans HA5.out (more_drew w5)).cell hc⟩) (Nat.le_refl _))
                    have HKT := Lib.hid (show ∀ W : World, W.heap[TB]? = some (.cells #[.int .i64 t4.op, .string t4.name, .int .i64 t4.n, .slice ca4 t4.args.length cc4] 36) → (W.cell? ⟨TB, 0, none⟩ = some (.int .i64 t4.op) ∧ W.cell? ⟨TB, 1, none⟩ = some (.string t4.name) ∧ W.cell? ⟨TB, 2, none⟩ = some (.int .i64 t4.n) ∧ W.cell? ⟨TB, 3, none⟩ = some (.slice ca4 t4.args.length cc4)) from fun W h => ⟨by simp [World.cell?, h], by simp [World.cell?, h], by simp [World.cell?, h], by simp [World.cell?, h]⟩)
                    have hbt := blk_ltD HX5d.out
                    obtain ⟨hdp0, hdp9⟩ := HDP.out
                    have hwr : IntKind.i64.wrap (dp + 1) = dp + 1 := by rw [IntKind.wrap_i64]; omega
                    skip
                    refine wp_region_heldP (S := fun W => W.cell? ⟨TB, 0, none⟩ = some (.int .i64 t4.op) ∧ W.cell? ⟨TB, 1, none⟩ = some (.string t4.name) ∧ W.cell? ⟨TB, 2, none⟩ = some (.int .i64 t4.n) ∧ W.cell? ⟨TB, 3, none⟩ = some (.slice ca4 t4.args.length cc4)) 8 (by kernel_rfl) ?_
                    generalize w5.drew = wd at *
                    refine tkS (i := 0) (v := ?_) (by simp only [opA, op0]; exact rfl) (by kernel_rfl) (by kernel_rfl) (HKT.out _ HX5d.out) ?_ ?_
                    rotate_left
                    · intro w hS
                      (try dsimp only at hS); first | (go_simp; done) | (go_simp; with_reducible rfl)
                    (try simp only [ptS, stA, st0, stS])
                    refine tkS (i := 1) (v := ?_) (by simp only [opA, opS, op0]; exact rfl) (by kernel_rfl) (by kernel_rfl) (HKT.out _ HX5d.out) ?_ ?_
                    rotate_left
                    · intro w hS
                      (try dsimp only at hS); first | (go_simp; done) | (go_simp; with_reducible rfl)
                    (try simp only [ptS, stA, st0, stS])
                    refine tkS (i := 2) (v := ?_) (by simp only [opA, opS, op0]; exact rfl) (by kernel_rfl) (by kernel_rfl) (HKT.out _ HX5d.out) ?_ ?_
                    rotate_left
                    · intro w hS
                      (try dsimp only at hS); first | (go_simp; done) | (go_simp; with_reducible rfl)
                    (try simp only [ptS, stA, st0, stS])
                    refine tkS (i := 3) (v := ?_) (by simp only [opA, opS, op0]; exact rfl) (by kernel_rfl) (by kernel_rfl) (HKT.out _ HX5d.out) ?_ ?_
                    rotate_left
                    · intro w hS
                      (try dsimp only at hS); first | (go_simp; done) | (go_simp; with_reducible rfl)
                    (try simp only [ptS, stA, st0, stS])
                    refine tkS (i := 4) (v := ?_) (by simp only [opA, opS, op0]; exact rfl) (by kernel_rfl) (by kernel_rfl) (HKT.out _ HX5d.out) ?_ ?_
                    rotate_left
                    · intro w hS
                      (try dsimp only at hS); first | (go_simp; done) | (go_simp; with_reducible rfl)
                    (try simp only [ptS, stA, st0, stS])
                    refine wpAnyP_ready (rs := [5]) (by kernel_rfl) (by simp) ?_
                    refine (AllReadyP.cons (by simp only [opA, opS, op0]; exact rfl) (fun K hK => ?_) AllReadyP.nil)
                    rw [if_pos (by kernel_rfl)]
                    have HCR := Lib.hid (IH.out MB d prm left (dp + 1) l4 wd HM5.out HD.out HFP.out.1 HFP.out.2.1 HFP.out.2.2)
                    obtain ⟨t6, l6, hR⟩ : ∃ t r, numF d prm f (dp + 1) l4 = (t, r) := ⟨_, _, rfl⟩
                    rw [hR] at HCR HNUM
                    dsimp only at HNUM
                    clear hR
                    go_simp
                    refine HCR.out.mono ?_
                    rintro e w6 ⟨c6, rfl, hf, hr, hmk, hg⟩
                    have HFl6 := Lib.hid hf
                    have HM6 := Lib.hid hmk
                    have HG6 := Lib.hid (grow_trans HG5.out hg)
                    have HN6 := Lib.hid ((hg.block NB (blk_ltD HN5.out) (fun e => by have := HLT.out; have := HNB.out; injection e with e; omega)).trans HN5.out)
                    have HT6 := Lib.hid ((hg.block TB (blk_ltD HX5d.out) (fun e => by have := HM4.out.lt; have := HTB.out; injection e with e; omega)).trans HX5d.out)
                    have HRp6 := Lib.hid (show RepS .i64 (fun b => NB < b) w6 f t6.args c6 from hr.mono (fun b hb => by have := blk_ltD HN5.out; omega) (fun _ _ _ _ hc => hc) (Nat.le_refl _))
                    have HRq6 := Lib.hid (show RepS .i64 (fun b => NB < b) w6 f t4.args (.slice ca4 t4.args.length cc4) from HRp5.out.mono2 (fun b off u hb hc => ⟨hb.1, by rw [World.cell?_of_block (a := ⟨b, off, none⟩) (hg.block b (World.block_lt_of_cell? wd ⟨b, off, none⟩ hc) (fun e => by have := HLT.out; have := HNB.out; have := hb.1; injection e with e; omega))]; exact hc⟩) (Nat.le_refl _))
                    obtain ⟨ca6, cc6, hsh⟩ := hr.shape
                    dsimp only at hsh
                    subst hsh
                    clear hf hr hmk hg HCR
                    unfold agg
                    try go_wp2_with fail
                    refine hK.out _ _ (fun _ => (HKT.out _ HT6.out)) ?_
                    clear hK K
                    (try simp only [ptS, stA, st0, stS])
                    refine wpAnyP_ready (rs := [6]) (by kernel_rfl) (by simp) ?_
                    refine (AllReadyP.cons (by simp only [opA, opS, op0]; exact rfl) (fun K hK => ?_) AllReadyP.nil)
                    rw [if_pos (by kernel_rfl)]
                    have HA7 := Lib.hid (more_allocD w6 (.cells #[.int .i64 t4.op, .string t4.name, .int .i64 t4.n, .slice ca4 t4.args.length cc4, .int .i64 t6.op, .string t6.name, .int .i64 t6.n, .slice ca6 t6.args.length cc6] 36))
                    have HB7 := Lib.hid (alloc_last w6 (.cells #[.int .i64 t4.op, .string t4.name, .int .i64 t4.n, .slice ca4 t4.args.length cc4, .int .i64 t6.op, .string t6.name, .int .i64 t6.n, .slice ca6 t6.args.length cc6] 36))
                    obtain ⟨B7, HE7⟩ : ∃ B, Hid (B = w6.heap.size) := ⟨_, Lib.hid rfl⟩
                    go_simp
                    rw [← HE7.out] at HB7 ⊢
                    generalize w6.alloc (.cells #[.int .i64 t4.op, .string t4.name, .int .i64 t4.n, .slice ca4 t4.args.length cc4, .int .i64 t6.op, .string t6.name, .int .i64 t6.n, .slice ca6 t6.args.length cc6] 36) = w7 at *
                    have HM7 := Lib.hid (HM6.out.more HA7.out)
                    have HG7 := Lib.hid (grow_trans HG6.out (grow_more HA7.out))
                    have HN7 := Lib.hid ((HA7.out.block (blk_ltD HN6.out)).trans HN6.out)
                    have HT7 := Lib.hid ((HA7.out.block (blk_ltD HT6.out)).trans HT6.out)
                    have HRQ := Lib.hid (rep2D (S := fun b => NB < b) HB7.out (by rw [HE7.out]; exact blk_ltD HN6.out) HFl4.out (HRq6.out.mono (fun _ k => k) (fun _ _ _ _ hc => HA7.out.cell hc) (Nat.le_refl _)) HFl6.out (HRp6.out.mono (fun _ k => k) (fun _ _ _ _ hc => HA7.out.cell hc) (Nat.le_refl _)))
                    refine hK.out _ _ (fun _ => (HKT.out _ HT7.out)) ?_
                    clear hK K
                    (try simp only [ptS, stA, st0, stS])
                    refine tkS (i := 7) (v := ?_) (by simp only [opA, opS, op0]; exact rfl) (by kernel_rfl) (by kernel_rfl) (HKT.out _ HT7.out) ?_ ?_
                    rotate_left
                    · intro w hS
                      (try dsimp only at hS); first | (go_simp; done) | (go_simp; with_reducible rfl)
                    (try simp only [ptS, stA, st0, stS])
                    refine wpAnyP_ready (rs := [8]) (by kernel_rfl) (by simp) ?_
                    refine (AllReadyP.cons (by simp only [opA, opS, op0]; exact rfl) (fun K hK => ?_) AllReadyP.nil)
                    rw [if_pos (by kernel_rfl)]
                    have n0 : w7.cell? ⟨NB, 0, none⟩ = some (.int .i64 0) := by simp [World.cell?, HN7.out]
                    have f0 := thaw HN7.out 0
                    have n1 : w7.cell? ⟨NB, 1, none⟩ = some (.string ⟨#[]⟩) := by simp [World.cell?, HN7.out]
                    have f1 := thaw HN7.out 1
                    have n2 : w7.cell? ⟨NB, 2, none⟩ = some (.int .i64 0) := by simp [World.cell?, HN7.out]
                    have f2 := thaw HN7.out 2
                    have n3 : w7.cell? ⟨NB, 3, none⟩ = some (.slice none 0 0) := by simp [World.cell?, HN7.out]
                    have f3 := thaw HN7.out 3
                    have hbn := cell_lt n0
                    go_simp
                    refine hK.out _ _ (gone (by kernel_rfl)) ?_
                    clear hK K
                    (try simp only [ptN])
                    refine wpAnyP_done (by kernel_rfl) ?_ _
                    go_wp2_with fail
                    have HW := set4D HN7.out (.int .i64 op) (.string ⟨#[]⟩) (.int .i64 0) (.slice (some ⟨B7, 0, none⟩) 2 2)
                    refine bodyPost_ret (v := .agg #[.int .i64 op, .string ⟨#[]⟩, .int .i64 0, .slice (some ⟨B7, 0, none⟩) 2 2]) (results_cell_row Try.results155 _ _ NB 36 _ (0, 0) _ rfl HW Try.underlying36 rfl (by kernel_rfl)) rfl ?_
                    rw [← HNUM.out]
                    exact exp_fin HNB.out HLT.out HG7.out HM7.out HN7.out (flds_small HOB.out.1 HOB.out.2 (by omega) (by omega) (by decide) (by simp)) HRQ.out
end Go.Proofs.Ytekhoanjpnjaeaa

