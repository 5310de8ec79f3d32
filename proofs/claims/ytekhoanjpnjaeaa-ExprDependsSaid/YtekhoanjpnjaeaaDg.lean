/- Texts Build, laid together. -/
import Derived.Deep.DeepCutAuto
import Derived.Test.YtekhoanjpnjaeaaDe
import Derived.Test.YtekhoanjpnjaeaaDf
/- The contracts of ref06.build and Build. -/
namespace Go.Proofs.Ytekhoanjpnjaeaa
open Go.RowKit

structure Nd where
  op : Int
  name : Int
  count : Int
  odd : Bool
  n : Int
structure Nd.Ok (x : Nd) : Prop where
  op : 0 ≤ x.op ∧ x.op ≤ 255
  name : 0 ≤ x.name ∧ x.name ≤ 255
  count : 0 ≤ x.count ∧ x.count ≤ 255
  n : In64 x.n
def flat5 : List Nd → List Value
  | [] => []
  | x :: xs => .int .u8 x.op :: .int .u8 x.name :: .int .u8 x.count :: .bool x.odd :: .int .i64 x.n :: flat5 xs
def nName1 (x : Nd) : ByteArray := if 5 ≤ x.op % 24 ∧ x.op % 24 ≤ 8 then wordV x.name else ByteArray.empty
def nN1 (x : Nd) : Int := if x.op % 24 = 1 then x.n else 0
def nName (x : Nd) : ByteArray := if x.odd = true ∧ x.count % 5 = 0 then wordV x.name else nName1 x
def nN (x : Nd) : Int := if x.odd = true ∧ x.count % 5 = 0 then x.n else nN1 x
def nCnt (x : Nd) : Nat := if x.odd = true then (x.count % 4).toNat else (opnd (x.op % 24)).toNat
def iterS (g : List Nd → Ex × List Nd) : Nat → List Nd → List Ex × List Nd
  | 0, l => ([], l)
  | k + 1, l => ((iterS g k l).1 ++ [(g (iterS g k l).2).1], (g (iterS g k l).2).2)
def leafE : Ex := .node 1 ByteArray.empty 0 []
def bldF : Nat → List Nd → Ex × List Nd
  | 0, l => (leafE, l)
  | _ + 1, [] => (leafE, [])
  | f + 1, x :: l => (.node (x.op % 24) (nName x) (nN x) (iterS (bldF f) (nCnt x) l).1, (iterS (bldF f) (nCnt x) l).2)
theorem iterS_sub {g : List Nd → Ex × List Nd} (hg : ∀ l x, x ∈ (g l).2 → x ∈ l) (hl : ∀ l, (g l).2.length ≤ l.length) : ∀ k l, (∀ x, x ∈ (iterS g k l).2 → x ∈ l) ∧ (iterS g k l).2.length ≤ l.length ∧ (iterS g k l).1.length = k
  | 0, l => ⟨fun _ h => h, Nat.le_refl _, rfl⟩
  | k + 1, l => by
    obtain ⟨h1, h2, h3⟩ := iterS_sub hg hl k l
    exact ⟨fun x h => h1 x (hg _ x h), Nat.le_trans (hl _) h2, by simp [iterS, h3]⟩
theorem bldF_sub : ∀ f l, (∀ x, x ∈ (bldF f l).2 → x ∈ l) ∧ (bldF f l).2.length ≤ l.length
  | 0, l => ⟨fun _ h => h, Nat.le_refl _⟩
  | _ + 1, [] => ⟨fun _ h => h, Nat.le_refl _⟩
  | f + 1, x :: l => by
    obtain ⟨h1, h2, _⟩ := iterS_sub (g := bldF f) (fun l y h => (bldF_sub f l).1 y h) (fun l => (bldF_sub f l).2) (nCnt x) l
    exact ⟨fun y h => List.mem_cons_of_mem _ (h1 y h), by have := h2; simp only [bldF, List.length_cons]; omega⟩
theorem nCnt_le (x : Nd) (h : x.Ok) : nCnt x ≤ 3 := by
  unfold nCnt
  split
  · have := h.count; omega
  · have : opnd (x.op % 24) ≤ 2 := by unfold opnd; (repeat' split) <;> omega
    omega

def BldSaid (f : Nat) : Prop := ∀ (S : Nat → Prop) (ns : List Nd) (v : Value) (w : World), ns.length < 4294967296 → (∀ x ∈ ns, x.Ok) → Row S w 5 ns.length v (flat5 ns) → f ≤ 30 →
    Calls Try.prog 67 #[v, .int .i64 (31 - (f : Int))] w fun e w' => Below w.heap.size w w' ∧ ∃ c v', e = .returned (.tuple #[agg .i64 (bldF f ns).1 c, v']) ∧ Flds .i64 (bldF f ns).1 ∧ RepS .i64 (fun x => w.heap.size ≤ x) w' f (bldF f ns).1.args c ∧ Row S w' 5 (bldF f ns).2.length v' (flat5 (bldF f ns).2)

theorem leafFlds : Flds .i64 leafE := ⟨show (Lit.int .u8 1).wf = true by decide, show (Lit.int .i64 0).wf = true by decide, Nat.zero_le _, show 0 < 4294967296 by decide⟩
theorem build_leaf {S : Nat → Prop} {ns : List Nd} {v : Value} {w : World} (f : Nat) (h : bldF f ns = (leafE, ns)) (hr : Row S w 5 ns.length v (flat5 ns)) :
    Below w.heap.size w (w.alloc (.cells #[.int .i64 1, .string ⟨#[]⟩, .int .i64 0, .slice none 0 0] 36)) ∧ ∃ c v', Ending.returned (.tuple #[.agg #[.int .i64 1, .string ⟨#[]⟩, .int .i64 0, .slice none 0 0], v]) = .returned (.tuple #[agg .i64 (bldF f ns).1 c, v']) ∧ Flds .i64 (bldF f ns).1 ∧
      RepS .i64 (fun x => w.heap.size ≤ x) (w.alloc (.cells #[.int .i64 1, .string ⟨#[]⟩, .int .i64 0, .slice none 0 0] 36)) f (bldF f ns).1.args c ∧ Row S (w.alloc (.cells #[.int .i64 1, .string ⟨#[]⟩, .int .i64 0, .slice none 0 0] 36)) 5 (bldF f ns).2.length v' (flat5 (bldF f ns).2) := by
  rw [h]
  have hB : Below w.heap.size w (w.alloc (.cells #[.int .i64 1, .string ⟨#[]⟩, .int .i64 0, .slice none 0 0] 36)) := (Below.refl _ _).alloc (Nat.le_refl _) _
  exact ⟨hB, .slice none 0 0, v, rfl, leafFlds, RepS.nil _ _ _, hr.below hB⟩

/-- The world where the node's fields are being set: N the result, N + 1 the node, N + 2 the expression. -/
structure BInv (w : World) (x : Nd) (name : ByteArray) (n : Int) (wx : World) : Prop where
  below : Below w.heap.size w wx
  size : w.heap.size + 1 + 1 + 1 ≤ wx.heap.size
  res : wx.heap[w.heap.size]? = some (.cells #[.int .i64 0, .string ⟨#[]⟩, .int .i64 0, .slice none 0 0] 36)
  bx : wx.heap[w.heap.size + 1]? = some (.cells #[.int .u8 x.op, .int .u8 x.name, .int .u8 x.count, .bool x.odd, .int .i64 x.n] 208)
  be : wx.heap[w.heap.size + 1 + 1]? = some (.cells #[.int .i64 (x.op % 24), .string name, .int .i64 n, .slice none 0 0] 36)
theorem BInv.more {w wx w' : World} {x : Nd} {name : ByteArray} {n : Int} (h : BInv w x name n wx) (hb : Below wx.heap.size wx w') : BInv w x name n w' := by
  have hs := h.size
  exact ⟨h.below.trans (hb.mono h.below.size), Nat.le_trans hs hb.size, (hb.block _ (by omega)).trans h.res, (hb.block _ (by omega)).trans h.bx, (hb.block _ (by omega)).trans h.be⟩
theorem BInv.setName {w wx : World} {x : Nd} {name : ByteArray} {n : Int} (h : BInv w x name n wx) (name' : ByteArray) : BInv w x name' n (wx.setCell ⟨w.heap.size + 1 + 1, 1, none⟩ (.string name')) := by
  have hs := h.size
  refine ⟨h.below.setCell (p := ⟨w.heap.size + 1 + 1, 1, none⟩) (by show w.heap.size ≤ w.heap.size + 1 + 1; omega) _, by simp [World.setCell]; omega, ?_, ?_, ?_⟩
  · rw [Below.heap_setCell _ _ _ _ (show w.heap.size ≠ w.heap.size + 1 + 1 by omega)]; exact h.res
  · rw [Below.heap_setCell _ _ _ _ (show w.heap.size + 1 ≠ w.heap.size + 1 + 1 by omega)]; exact h.bx
  · rw [heap_setCell_same _ _ _ _ _ _ h.be]; rfl
theorem BInv.setN {w wx : World} {x : Nd} {name : ByteArray} {n : Int} (h : BInv w x name n wx) (n' : Int) : BInv w x name n' (wx.setCell ⟨w.heap.size + 1 + 1, 2, none⟩ (.int .i64 n')) := by
  have hs := h.size
  refine ⟨h.below.setCell (p := ⟨w.heap.size + 1 + 1, 2, none⟩) (by show w.heap.size ≤ w.heap.size + 1 + 1; omega) _, by simp [World.setCell]; omega, ?_, ?_, ?_⟩
  · rw [Below.heap_setCell _ _ _ _ (show w.heap.size ≠ w.heap.size + 1 + 1 by omega)]; exact h.res
  · rw [Below.heap_setCell _ _ _ _ (show w.heap.size + 1 ≠ w.heap.size + 1 + 1 by omega)]; exact h.bx
  · rw [heap_setCell_same _ _ _ _ _ _ h.be]; rfl
theorem BInv.start (w : World) (x : Nd) : BInv w x ByteArray.empty x.n (((w.alloc (.cells #[.int .i64 0, .string ⟨#[]⟩, .int .i64 0, .slice none 0 0] 36)).alloc (.cells #[.int .u8 x.op, .int .u8 x.name, .int .u8 x.count, .bool x.odd, .int .i64 x.n] 208)).alloc (.cells #[.int .i64 (x.op % 24), .string ⟨#[]⟩, .int .i64 x.n, .slice none 0 0] 36)) := by
  refine ⟨(((Below.refl _ _).alloc (Nat.le_refl _) _).alloc (by simp) _).alloc (by simp; omega) _, by simp, ?_, ?_, ?_⟩
  · rw [Below.heap_alloc _ _ _ (by simp; omega), Below.heap_alloc _ _ _ (by simp)]; exact alloc_last _ _
  · rw [Below.heap_alloc _ _ _ (by simp)]; exact alloc_at _ _ (by simp)
  · exact alloc_at _ _ (by simp)

/-- The world at the head of build's loop: k operands are made. -/
structure LInv (w : World) (S : Nat → Prop) (x : Nd) (l : List Nd) (f k : Nat) (lv : Value) (wr : World) : Prop where
  below : Below w.heap.size w wr
  size : w.heap.size + 1 + 1 + 1 ≤ wr.heap.size
  res : wr.heap[w.heap.size]? = some (.cells #[.int .i64 0, .string ⟨#[]⟩, .int .i64 0, .slice none 0 0] 36)
  out : ∃ sv, wr.heap[w.heap.size + 1 + 1]? = some (.cells #[.int .i64 (x.op % 24), .string (nName x), .int .i64 (nN x), sv] 36) ∧ Grow .i64 36 (w.heap.size + 1 + 1 + 1) wr f sv (iterS (bldF f) k l).1
  rest : Row (fun z => S z ∧ z < w.heap.size) wr 5 (iterS (bldF f) k l).2.length lv (flat5 (iterS (bldF f) k l).2)

theorem LInv.more {w wr w' : World} {S : Nat → Prop} {x : Nd} {l : List Nd} {f k : Nat} {lv : Value} (h : LInv w S x l f k lv wr) (hb : Below wr.heap.size wr w') : LInv w S x l f k lv w' := by
  have hs := h.size
  obtain ⟨sv, h1, h2⟩ := h.out
  exact ⟨h.below.trans (hb.mono h.below.size), Nat.le_trans hs hb.size, (hb.block _ (by omega)).trans h.res, ⟨sv, (hb.block _ (by omega)).trans h1, h2.keep (fun x _ hx => hb.block x hx)⟩, h.rest.below hb⟩
theorem LInv.step {w wr w2 : World} {S : Nat → Prop} {x : Nd} {l : List Nd} {f k : Nat} {lv lv' : Value} {sv sv' : Value} {o : Obj} (hI : LInv w S x l f k lv wr)
    (hsv : wr.heap[w.heap.size + 1 + 1]? = some (.cells #[.int .i64 (x.op % 24), .string (nName x), .int .i64 (nN x), sv] 36))
    (hg : (wr.alloc o).grownBy w2 sv.ownBlock) (hgrow : Grow .i64 36 (w.heap.size + 1 + 1 + 1) w2 f sv' ((iterS (bldF f) k l).1 ++ [(bldF f (iterS (bldF f) k l).2).1])) (hon : ∀ y, sv.ownBlock = some y → w.heap.size + 1 + 1 + 1 ≤ y)
    (hr : Row (fun z => S z ∧ z < w.heap.size) wr 5 (bldF f (iterS (bldF f) k l).2).2.length lv' (flat5 (bldF f (iterS (bldF f) k l).2).2)) :
    LInv w S x l f (k + 1) lv' (w2.setCell ⟨w.heap.size + 1 + 1, 3, none⟩ sv') := by
  have hs := hI.size
  have e2 : ∀ y, y < wr.heap.size → y < w.heap.size + 1 + 1 + 1 → w2.heap[y]? = wr.heap[y]? := by
    intro y hy hy'
    rw [hg.block y (by rw [World.size_alloc]; omega) (fun e => by have := hon y e.symm; omega)]
    exact Below.heap_alloc _ _ _ hy
  have hs2 : wr.heap.size ≤ w2.heap.size := by have := hg.size; rw [World.size_alloc] at this; omega
  have hss : (w2.setCell ⟨w.heap.size + 1 + 1, 3, none⟩ sv').heap.size = w2.heap.size := by simp [World.setCell]
  refine ⟨⟨hg.os.trans hI.below.os, hg.tape.trans hI.below.tape, hg.output.trans hI.below.output, by rw [hss]; have := hI.below.size; omega, fun y hy => ?_⟩, by rw [hss]; omega, ?_, ⟨sv', ?_, ?_⟩, ?_⟩
  · rw [Below.heap_setCell _ _ _ _ (show y ≠ w.heap.size + 1 + 1 by omega), e2 y (by omega) (by omega)]; exact hI.below.block y hy
  · rw [Below.heap_setCell _ _ _ _ (show w.heap.size ≠ w.heap.size + 1 + 1 by omega), e2 _ (by omega) (by omega)]; exact hI.res
  · rw [heap_setCell_same _ _ _ _ _ _ ((e2 _ (by omega) (by omega)).trans hsv)]; rfl
  · exact hgrow.keep (fun y hy _ => Below.heap_setCell _ _ _ _ (show y ≠ w.heap.size + 1 + 1 by omega))
  · refine hr.mono (fun _ h => h) (fun b o v hb hv => ?_)
    rw [cell_set_far (show b ≠ w.heap.size + 1 + 1 by omega), World.cell?_of_block (w := wr) (a := ⟨b, o, none⟩) (e2 b (cell_lt hv) (by omega))]; exact hv

set_option maxRecDepth 100000 in
set_option maxHeartbeats 2000000 in
theorem build_any (f : Nat) : BldSaid f := by
  induction f with
  | zero =>
    intro S ns v w hl hok hr hf
    obtain ⟨a, cap, rfl, _⟩ := hr.shape
    have HR := Lib.hid hr; clear hr
    have HBL := Lib.hid (build_leaf 0 rfl HR.out)
    simp only [Int.natCast_zero, Int.sub_zero]
    by_cases h0 : ns.length = 0
    · have hl0 : ((ns.length : Int) == 0) = true := by simp [h0]
      clear h0
      go_enter Try.func67, Try.ntmps67
      go_wp2_with fail
      exact bodyPost_ret (v := .tuple #[.agg #[.int .i64 1, .string ⟨#[]⟩, .int .i64 0, .slice none 0 0], .slice a ns.length cap]) (by simp [results, Try.results67, go_sem]) rfl HBL.out
    · have hl0 : ((ns.length : Int) == 0) = false := beq_eq_false_iff_ne.2 (by omega)
      clear h0
      go_enter Try.func67, Try.ntmps67
      go_wp2_with fail
      exact bodyPost_ret (v := .tuple #[.agg #[.int .i64 1, .string ⟨#[]⟩, .int .i64 0, .slice none 0 0], .slice a ns.length cap]) (by simp [results, Try.results67, go_sem]) rfl HBL.out
  | succ f ih =>
    intro S ns v w hl hok hr hf
    have IH := Lib.hid ih; clear ih
    obtain ⟨a, cap, rfl, hcap⟩ := hr.shape
    have HR := Lib.hid hr; clear hr
    generalize hdp : (31 - ((f + 1 : Nat) : Int)) = dp
    have hd1 : 1 ≤ dp := by omega
    have hd2 : dp ≤ 30 := by omega
    have HDP := Lib.hid hdp; clear hdp
    cases ns with
    | nil =>
      have HBL := Lib.hid (build_leaf (f + 1) rfl HR.out)
      simp only [List.length_nil] at *
      go_enter Try.func67, Try.ntmps67
      go_wp2_with fail
      exact bodyPost_ret (v := .tuple #[.agg #[.int .i64 1, .string ⟨#[]⟩, .int .i64 0, .slice none 0 0], .slice a 0 cap]) (by simp [results, Try.results67, go_sem]) rfl HBL.out
    | cons x l =>
      obtain ⟨b, off, rfl, _, _, hc⟩ := HR.out.at (by simp)
      have g0 := hc 0 _ rfl
      have g1 := hc 1 _ rfl
      have g2 := hc 2 _ rfl
      have g3 := hc 3 _ rfl
      have g4 := hc 4 _ rfl
      simp only [Nat.add_zero] at g0
      clear hc
      have hx := hok x List.mem_cons_self
      have HOK := Lib.hid hok; clear hok
      obtain ⟨hx1, hx2⟩ := hx.op
      obtain ⟨hx3, hx4⟩ := hx.name
      obtain ⟨hx5, hx6⟩ := hx.count
      have HXO := Lib.hid hx; clear hx
      have hlen : (x :: l).length = l.length + 1 := rfl
      have hll : l.length < 4294967296 := by rw [hlen] at hl; omega
      have hcp1 : 1 ≤ cap := by rw [hlen] at hcap; omega
      obtain ⟨ad, had⟩ : ∃ ad, ad = if cap = 1 then off else off + 5 := ⟨_, rfl⟩
      have hsl : ∀ w, (Instr.slice 33 (.slice (some ⟨b, off, none⟩) (l.length + 1) cap) (some (.int .i64 1)) none none).run Try.prog w = .ok (.slice (some ⟨b, ad, none⟩) l.length (cap - 1)) w := by
        intro w
        rw [had]
        rw [hlen] at hcap
        by_cases h1 : cap = 1
        · subst h1
          have : l.length = 0 := by omega
          rw [this]
          simp [go_sem, sliced]
        · rw [if_neg h1]
          simp [go_sem, sliced]
          rw [if_pos (by omega), if_neg h1]
      have HRD : Hid (Row S w 5 l.length (.slice (some ⟨b, ad, none⟩) l.length (cap - 1)) (flat5 l)) := Lib.hid (by
        have hd := HR.out.drop (k := 1) (by simp)
        by_cases h1 : cap = 1
        · have h0 : l.length = 0 := by rw [hlen] at hcap; omega
          have : l = [] := List.eq_nil_of_length_eq_zero h0
          subst this
          exact Row.nil _ _ _ _ _
        · rw [had, if_neg h1]
          simpa [flat5] using hd)
      rw [hlen]
      clear had
      have hb := cell_lt g0
      have hd3 : decide (30 < dp) = false := by simp; omega
      go_enter Try.func67, Try.ntmps67
      have HBS := Lib.hid (BInv.start w x)
      obtain ⟨cnt0, hcnt0⟩ : ∃ c : Int, (if opnd (x.op % 24) < 0 then 0 else opnd (x.op % 24)) = c := ⟨_, rfl⟩
      go_upto_region 7 with (go_at_call 109; refine (arity_any _ _).mono ?_; rintro e w' ⟨rfl, rfl⟩)
      have HC0 := Lib.hid hcnt0; clear hcnt0
      generalize hws : ((w.alloc (.cells #[.int .i64 0, .string ⟨#[]⟩, .int .i64 0, .slice none 0 0] 36)).alloc (.cells #[.int .u8 x.op, .int .u8 x.name, .int .u8 x.count, .bool x.odd, .int .i64 x.n] 208)).alloc (.cells #[.int .i64 (x.op % 24), .string ⟨#[]⟩, .int .i64 x.n, .slice none 0 0] 36) = ws at *
      clear hws g0 g1 g2 g3 g4 hsl
      have e0 : ws.cell? ⟨w.heap.size + 1 + 1, 0, none⟩ = some (.int .i64 (x.op % 24)) := by simp [World.cell?, HBS.out.be]
      go_cut [44] (fun s wx => s = .bool (decide (5 ≤ x.op % 24 ∧ x.op % 24 ≤ 8)) ∧ wx = ws)
      case first =>
        by_cases h5 : 5 ≤ x.op % 24
        · have h5' : decide (5 ≤ x.op % 24) = true := by simpa using h5
          go_wp2_with fail
          go_meet
          case rel => exact ⟨by simp [h5], rfl⟩
        · have h5' : decide (5 ≤ x.op % 24) = false := by simpa using h5
          go_wp2_with fail
          go_meet
          case rel => exact ⟨by simp; omega, rfl⟩
      case rest =>
        obtain ⟨rfl, rfl⟩ := hcut
        generalize hB58 : decide (5 ≤ x.op % 24 ∧ x.op % 24 ≤ 8) = B58
        have HB58 := Lib.hid hB58; clear hB58
        clear e0
        have n1 : wc.cell? ⟨w.heap.size + 1, 1, none⟩ = some (.int .u8 x.name) := by simp [World.cell?, HBS.out.bx]
        have m1 : wc.cell? ⟨w.heap.size + 1 + 1, 1, none⟩ = some (.string ByteArray.empty) := by simp [World.cell?, HBS.out.be]
        have fm1 := thaw HBS.out.be 1
        have HWD := Lib.hid (fun w => word_any x.name w hx3 hx4)
        go_upto_if 44 with (fail)
        go_cut [] (fun wx => BInv w x (nName1 x) x.n wx)
        case first =>
          cases B58 with
          | true =>
            have HNM := Lib.hid (show nName1 x = wordV x.name by unfold nName1; rw [if_pos (by simpa using HB58.out)])
            go_wp2_with fail
            refine (HWD.out _).mono ?_
            rintro e w1 ⟨rfl, hb1⟩
            have HBI := Lib.hid ((HBS.out.more hb1).setName (wordV x.name))
            have m1' := below_cell hb1 m1
            have fm1' := below_thaw hb1 m1 fm1
            clear hb1
            go_wp2_with fail
            go_meet
            case rel => rw [HNM.out]; exact HBI.out
          | false =>
            have HNM := Lib.hid (show nName1 x = ByteArray.empty by unfold nName1; rw [if_neg (by simpa using HB58.out)])
            go_wp2_with fail
            go_meet
            case rel => rw [HNM.out]; exact HBS.out
        case rest =>
          clear n1 m1 fm1 HBS HWD
          have HB2 := Lib.hid hcut; clear hcut
          obtain ⟨w5, rfl⟩ : ∃ w5 : World, w5 = wc := ⟨_, rfl⟩
          have e0 : w5.cell? ⟨w.heap.size + 1 + 1, 0, none⟩ = some (.int .i64 (x.op % 24)) := by simp [World.cell?, HB2.out.be]
          have m2 : w5.cell? ⟨w.heap.size + 1 + 1, 2, none⟩ = some (.int .i64 x.n) := by simp [World.cell?, HB2.out.be]
          have fm2 := thaw HB2.out.be 2
          generalize hB1 : (x.op % 24 != 1) = B1
          have HB1 := Lib.hid hB1
          go_upto_if 51 with (fail)
          clear hB1
          go_cut [] (fun wx => BInv w x (nName1 x) (nN1 x) wx)
          case first =>
            cases B1 with
            | true =>
              have HNM := Lib.hid (show nN1 x = 0 by unfold nN1; rw [if_neg (by simpa using HB1.out)])
              go_wp2_with fail
              go_meet
              case rel => rw [HNM.out]; exact HB2.out.setN 0
            | false =>
              have HNM := Lib.hid (show nN1 x = x.n by unfold nN1; rw [if_pos (by simpa using HB1.out)])
              go_wp2_with fail
              go_meet
              case rel => rw [HNM.out]; exact HB2.out
          case rest =>
            clear e0 m2 fm2 HB2
            have HB3 := Lib.hid hcut; clear hcut
            obtain ⟨w6, rfl⟩ : ∃ w6 : World, w6 = wc := ⟨_, rfl⟩
            have c3 : w6.cell? ⟨w.heap.size + 1, 3, none⟩ = some (.bool x.odd) := by simp [World.cell?, HB3.out.bx]
            go_upto_if 54 with (fail)
            go_cut [8] (fun s8 wx => s8 = .int .i64 (nCnt x) ∧ BInv w x (nName x) (nN x) wx)
            case first =>
              cases hodd : x.odd with
              | false =>
                rw [hodd] at c3
                have HN1 := Lib.hid (show nName x = nName1 x by unfold nName; rw [hodd]; simp)
                have HN2 := Lib.hid (show nN x = nN1 x by unfold nN; rw [hodd]; simp)
                have HN3 := Lib.hid (show (nCnt x : Int) = cnt0 by unfold nCnt; rw [hodd, ← HC0.out, if_neg (by simp)]; split <;> omega)
                clear hodd
                go_wp2_with fail
                go_meet
                case rel => exact ⟨by rw [HN3.out], by rw [HN1.out, HN2.out]; exact HB3.out⟩
              | true =>
                rw [hodd] at c3
                have c2 : w6.cell? ⟨w.heap.size + 1, 2, none⟩ = some (.int .u8 x.count) := by simp [World.cell?, HB3.out.bx]
                have HN3 := Lib.hid (show (nCnt x : Int) = x.count % 4 by unfold nCnt; rw [hodd, if_pos rfl]; omega)
                by_cases h5 : x.count % 5 = 0
                · have h5' : (x.count % 5 == 0) = true := by simp [h5]
                  have HN1 := Lib.hid (show nName x = wordV x.name by unfold nName; rw [if_pos ⟨hodd, h5⟩])
                  have HN2 := Lib.hid (show nN x = x.n by unfold nN; rw [if_pos ⟨hodd, h5⟩])
                  clear hodd h5
                  have d1 : w6.drew.cell? ⟨w.heap.size + 1, 1, none⟩ = some (.int .u8 x.name) := by show w6.cell? _ = _; simp [World.cell?, HB3.out.bx]
                  have d4 : w6.drew.cell? ⟨w.heap.size + 1, 4, none⟩ = some (.int .i64 x.n) := by show w6.cell? _ = _; simp [World.cell?, HB3.out.bx]
                  have m1 : w6.drew.cell? ⟨w.heap.size + 1 + 1, 1, none⟩ = some (.string (nName1 x)) := by show w6.cell? _ = _; simp [World.cell?, HB3.out.be]
                  have m2 : w6.drew.cell? ⟨w.heap.size + 1 + 1, 2, none⟩ = some (.int .i64 (nN1 x)) := by show w6.cell? _ = _; simp [World.cell?, HB3.out.be]
                  have fm1 : w6.drew.frozen? ⟨w.heap.size + 1 + 1, 1, none⟩ = false := thaw HB3.out.be 1
                  have fm2 : w6.drew.frozen? ⟨w.heap.size + 1 + 1, 2, none⟩ = false := thaw HB3.out.be 2
                  have HWD := Lib.hid (word_any x.name w6.drew hx3 hx4)
                  have HB3d := Lib.hid (HB3.out.more (w' := w6.drew) ⟨rfl, rfl, rfl, Nat.le_refl _, fun _ _ => rfl⟩)
                  go_wp2_with fail
                  go_region_held3 (fun wx => wx.cell? ⟨w.heap.size + 1, 1, none⟩ = some (.int .u8 x.name) ∧ wx.cell? ⟨w.heap.size + 1, 4, none⟩ = some (.int .i64 x.n)) (first | with_reducible exact ⟨d1, d4⟩ | with_reducible exact ⟨p1, p4⟩ | exact ⟨(cell_set_far (show w.heap.size + 1 ≠ w.heap.size + 1 + 1 by omega)).trans p1, (cell_set_far (show w.heap.size + 1 ≠ w.heap.size + 1 + 1 by omega)).trans p4⟩ | exact ⟨(cell_set_far (show w.heap.size + 1 ≠ w.heap.size + 1 + 1 by omega)).trans ((cell_set_far (show w.heap.size + 1 ≠ w.heap.size + 1 + 1 by omega)).trans p1), (cell_set_far (show w.heap.size + 1 ≠ w.heap.size + 1 + 1 by omega)).trans ((cell_set_far (show w.heap.size + 1 ≠ w.heap.size + 1 + 1 by omega)).trans p4)⟩) (first | (go_at_call 110; refine HWD.out.mono ?_; rintro e w1 ⟨rfl, hb1⟩; have p1 := below_cell hb1 d1; have p4 := below_cell hb1 d4; have k1 := below_cell hb1 m1; have k2 := below_cell hb1 m2; have j1 := below_thaw hb1 m1 fm1; have j2 := below_thaw hb1 m2 fm2))
                  all_goals
                    have HBI := Lib.hid (((HB3d.out.more hb1).setName (wordV x.name)).setN x.n)
                    clear hb1 p1 p4 k1 k2 j1 j2
                    go_wp2_with fail
                    go_meet
                    case rel => exact ⟨by rw [HN3.out], by rw [HN1.out, HN2.out]; exact HBI.out⟩
                · have h5' : (x.count % 5 == 0) = false := by simp [h5]
                  have HN1 := Lib.hid (show nName x = nName1 x by unfold nName; rw [if_neg (fun h => h5 h.2)])
                  have HN2 := Lib.hid (show nN x = nN1 x by unfold nN; rw [if_neg (fun h => h5 h.2)])
                  clear hodd h5
                  go_wp2_with fail
                  go_meet
                  case rel => exact ⟨by rw [HN3.out], by rw [HN1.out, HN2.out]; exact HB3.out⟩
            case rest =>
              obtain ⟨rfl, hcut⟩ := hcut
              clear c3 HB3
              have HB4 := Lib.hid hcut; clear hcut
              obtain ⟨w7, rfl⟩ : ∃ w7 : World, w7 = wc := ⟨_, rfl⟩
              have hcn := nCnt_le x HXO.out
              obtain ⟨i0, hi0, hz0, hz1, hz2⟩ := info_parts Try.info36
              generalize hN : nCnt x = N at *
              have HNC := Lib.hid hN; clear hN
              go_wp2_with fail
              go_loopw [0, 9] (fun lv i wr => ∃ k : Nat, k ≤ N ∧ i = .int .i64 k ∧ LInv w S x l f k lv wr) (fun _ i _ => N - (intOf i).toNat)
              case atStart => exact ⟨0, Nat.zero_le _, rfl, ⟨HB4.out.below, HB4.out.size, HB4.out.res, ⟨_, HB4.out.be, Grow.nil _ _ _ _ _⟩, (HRD.out.mono2 (by omega) (fun b o v hb hv => ⟨⟨hb, cell_lt hv⟩, below_cell HB4.out.below hv⟩))⟩⟩
              case round =>
                obtain ⟨k, hk, rfl, hinv⟩ := hrel
                have HI := Lib.hid hinv; clear hinv
                have HSUB := Lib.hid (iterS_sub (g := bldF f) (fun l y h => (bldF_sub f l).1 y h) (fun l => (bldF_sub f l).2) k l)
                obtain ⟨la, lcap, rfl, _⟩ := HI.out.rest.shape
                have hszr := HI.out.size
                by_cases hlt : k < N
                · have HR2 := Lib.hid HI.out.rest
                  generalize hrs : (iterS (bldF f) k l).2 = rs at *
                  have HRS := Lib.hid hrs; clear hrs
                  have HRL := Lib.hid (show rs.length < 4294967296 by have := HSUB.out.2.1; omega)
                  have HRO := Lib.hid (fun z hz => HOK.out z (List.mem_cons_of_mem _ (HSUB.out.1 z hz)))
                  go_wp2_with fail
                  rw [show dp + 1 = 31 - (f : Int) by have := HDP.out; omega]
                  refine (IH.out (fun z => S z ∧ z < w.heap.size) rs (.slice la rs.length lcap) wr HRL.out HRO.out HR2.out (by omega)).mono ?_
                  rintro e w1 ⟨hb1, c1, v1, rfl, hf1, hr1, hw1⟩
                  obtain ⟨a1, cap1, rfl⟩ := hr1.shape
                  obtain ⟨va, vcap, rfl, _⟩ := hw1.shape
                  unfold agg
                  have HY := Lib.hid (And.intro hf1 (And.intro hr1 hw1)); clear hf1 hr1 hw1
                  generalize hrr : (bldF f rs).2 = rr at *
                  have HRR := Lib.hid hrr; clear hrr
                  generalize hyy : (bldF f rs).1 = y at *
                  have HYE := Lib.hid hyy; clear hyy
                  have HI1 := Lib.hid (HI.out.more hb1)
                  have HB01 := Lib.hid hb1
                  have hsz1 := hb1.size
                  clear hb1
                  obtain ⟨sv, hsv, hgrow⟩ := HI.out.out
                  obtain ⟨asv, capsv, rfl, hown⟩ := hgrow.shape
                  have hLk : (iterS (bldF f) k l).1.length = k := HSUB.out.2.2
                  have hsv1 : w1.heap[w.heap.size + 1 + 1]? = some (.cells #[.int .i64 (x.op % 24), .string (nName x), .int .i64 (nN x), .slice asv (iterS (bldF f) k l).1.length capsv] 36) := by rw [HB01.out.block _ (by omega)]; exact hsv
                  rw [hLk] at hsv1 hown
                  have HSV := Lib.hid hsv1
                  have HGR := Lib.hid hgrow
                  have HOWN := Lib.hid hown
                  have o3 : w1.cell? ⟨w.heap.size + 1 + 1, 3, none⟩ = some (.slice asv k capsv) := by simp [World.cell?, hsv1]
                  have fr3 := thaw hsv1 3
                  have hN2 := cell_lt o3
                  have HLK := Lib.hid hLk
                  clear hsv hsv1 hgrow hown hLk
                  have HW2 := Lib.hid (HI1.out.more ((Below.refl _ w1).alloc (Nat.le_refl _) (.cells #[.int .i64 y.op, .string y.name, .int .i64 y.n, .slice a1 y.args.length cap1] 36)))
                  obtain ⟨xs, hox, hpush⟩ := (HGR.out.keep (w' := (w1.alloc (.cells #[.int .i64 y.op, .string y.name, .int .i64 y.n, .slice a1 y.args.length cap1] 36)).alloc (.cells #[.int .i64 y.op, .string y.name, .int .i64 y.n, .slice a1 y.args.length cap1] 36)) (fun z _ hz => by rw [Below.heap_alloc _ _ _ (by rw [World.size_alloc]; omega), Below.heap_alloc _ _ _ (by omega)]; exact HB01.out.block z hz)).open
                  rw [HLK.out] at hox
                  have HOX := Lib.hid hox
                  have HPU := Lib.hid hpush
                  clear hox hpush
                  have hm1 : k + 1 ≤ maxLen := by unfold maxLen; omega
                  have hm2 : (k + 1) * 56 ≤ 140737488355328 := by omega
                  have hbs : w.heap.size + 1 + 1 + 1 ≤ ((w1.alloc (.cells #[.int .i64 y.op, .string y.name, .int .i64 y.n, .slice a1 y.args.length cap1] 36)).alloc (.cells #[.int .i64 y.op, .string y.name, .int .i64 y.n, .slice a1 y.args.length cap1] 36)).heap.size := by simp; omega
                  have hne1 : w.heap.size + 1 + 1 ≠ w1.heap.size := by omega
                  have HON := Lib.hid (show (Value.slice asv k capsv).ownBlock ≠ some (w.heap.size + 1 + 1) from fun e => by have := (HOWN.out _ e).1; omega)
                  have HNS := Lib.hid (fun (w2 : World) (gg cap2 : Nat) (h1 : w2.ownsRow (w.heap.size + 1 + 1 + 1) 36 4 (.slice (some ⟨gg, 0, none⟩) (k + 1) cap2) (k + 1) (xs ++ [.int .i64 y.op, .string y.name, .int .i64 y.n, .slice a1 y.args.length cap1]))
                      (h2 : ((w1.alloc (.cells #[.int .i64 y.op, .string y.name, .int .i64 y.n, .slice a1 y.args.length cap1] 36)).alloc (.cells #[.int .i64 y.op, .string y.name, .int .i64 y.n, .slice a1 y.args.length cap1] 36)).grownBy w2 (Value.slice asv k capsv).ownBlock)
                      (h3 : (Value.slice asv k capsv).ownBlock = some gg ∨ gg = ((w1.alloc (.cells #[.int .i64 y.op, .string y.name, .int .i64 y.n, .slice a1 y.args.length cap1] 36)).alloc (.cells #[.int .i64 y.op, .string y.name, .int .i64 y.n, .slice a1 y.args.length cap1] 36)).heap.size) =>
                    show LInv w S x l f (k + 1) (.slice va rr.length vcap) (w2.setCell ⟨w.heap.size + 1 + 1, 3, none⟩ (.slice (some ⟨gg, 0, none⟩) (k + 1) cap2)) by
                      refine HW2.out.step ((Below.heap_alloc _ _ _ hN2).trans HSV.out) h2 ?_ (fun z hz => (HOWN.out z hz).1) (by rw [HRS.out, HRR.out]; exact HY.out.2.2.below ((Below.refl _ w1).alloc (Nat.le_refl _) _))
                      rw [HRS.out, HYE.out]
                      have hh := HPU.out w2 gg cap2 _ y (.slice a1 y.args.length cap1) (by rw [HLK.out]; exact h1) (by rw [HLK.out]; exact h2) (by rw [HLK.out]; exact h3) (Nat.le_refl _) HY.out.1 (HY.out.2.1.mono2 (fun z o v hz hv => ⟨⟨by omega, fun e => by rw [HLK.out] at e; have := (HOWN.out _ e).2; omega⟩, alloc_cell _ (alloc_cell _ hv)⟩) (Nat.le_refl _))
                      rwa [HLK.out] at hh)
                  go_wp2_with (at_builtin; refine wpList_append_lies _ rfl _ _ _ rfl (w.heap.size + 1 + 1 + 1) 36 i0 _ 4 56 Try.underlying34 hi0 hz0 hz1 hz2 rfl (by omega) (.slice asv k capsv) k xs rfl HOX.out ⟨w1.heap.size + 1, 0, none⟩ 1 1 [.int .i64 y.op, .string y.name, .int .i64 y.n, .slice a1 y.args.length cap1] rfl rfl (World.news_of_block (cs := #[.int .i64 y.op, .string y.name, .int .i64 y.n, .slice a1 y.args.length cap1]) (t := 36) (fr := (0, 0)) (alloc_at _ _ (by simp))) (by simp [Value.oneCell']) (by omega) hm1 hm2 hbs _ rfl ?_; intro gg cap2 w2 hown2 hgrow2 hat2 hlt2; have p5 := grown_cell hgrow2 (alloc_cell _ (alloc_cell _ o3)) HON.out; have q5 := grown_thaw hgrow2 (alloc_cell _ (alloc_cell _ o3)) (alloc_thaw _ (alloc_cell _ o3) (alloc_thaw _ o3 fr3)) HON.out; have HNX := Lib.hid (HNS.out w2 gg cap2 hown2 hgrow2 hat2); clear hown2 hgrow2 hat2)
                  clear p5 q5
                  go_roundw
                  case rel => exact ⟨k + 1, by omega, by go_num, HNX.out⟩
                  case measure => simp [intOf]; omega
                · have hkk : k = N := by omega
                  subst hkk
                  obtain ⟨sv, hsv, hgrow⟩ := HI.out.out
                  obtain ⟨asv, capsv, rfl, _⟩ := hgrow.shape
                  have HRP := Lib.hid hgrow.rep
                  have HT1 := Lib.hid (show (bldF (f + 1) (x :: l)).1 = .node (x.op % 24) (nName x) (nN x) (iterS (bldF f) k l).1 by rw [bldF, HNC.out])
                  have HT2 := Lib.hid (show (bldF (f + 1) (x :: l)).2 = (iterS (bldF f) k l).2 by rw [bldF, HNC.out])
                  have hLk : (iterS (bldF f) k l).1.length = k := HSUB.out.2.2
                  have HRW := Lib.hid HI.out.rest
                  have HFL := Lib.hid (show Flds .i64 (.node (x.op % 24) (nName x) (nN x) (iterS (bldF f) k l).1) from ⟨by
                    show (Lit.int .u8 (x.op % 24)).wf = true
                    simp [Lit.wf, IntKind.min, IntKind.max, IntKind.signed, IntKind.bits]; omega, by
                    show (Lit.int .i64 (nN x)).wf = true
                    have h := HXO.out.n
                    have h2 : In64 (nN x) := by
                      unfold nN nN1
                      split
                      · exact h
                      · split
                        · exact h
                        · exact ⟨by decide, by decide⟩
                    obtain ⟨h3, h4⟩ := h2
                    simp [Lit.wf, IntKind.min, IntKind.max, IntKind.signed, IntKind.bits]; omega, by
                    show (nName x).size ≤ maxLen
                    unfold nName nName1
                    split
                    · exact wordV_size _ hx3
                    · split
                      · exact wordV_size _ hx3
                      · exact Nat.zero_le _, by show (iterS (bldF f) k l).1.length < _; rw [hLk]; omega⟩)
                  rw [hLk] at hsv HRP
                  have o0 : wr.cell? ⟨w.heap.size + 1 + 1, 0, none⟩ = some (.int .i64 (x.op % 24)) := by simp [World.cell?, hsv]
                  have o1 : wr.cell? ⟨w.heap.size + 1 + 1, 1, none⟩ = some (.string (nName x)) := by simp [World.cell?, hsv]
                  have o2 : wr.cell? ⟨w.heap.size + 1 + 1, 2, none⟩ = some (.int .i64 (nN x)) := by simp [World.cell?, hsv]
                  have o3 : wr.cell? ⟨w.heap.size + 1 + 1, 3, none⟩ = some (.slice asv k capsv) := by simp [World.cell?, hsv]
                  have z0 : wr.cell? ⟨w.heap.size, 0, none⟩ = some (.int .i64 0) := by simp [World.cell?, HI.out.res]
                  have z1 : wr.cell? ⟨w.heap.size, 1, none⟩ = some (.string ⟨#[]⟩) := by simp [World.cell?, HI.out.res]
                  have z2 : wr.cell? ⟨w.heap.size, 2, none⟩ = some (.int .i64 0) := by simp [World.cell?, HI.out.res]
                  have z3 : wr.cell? ⟨w.heap.size, 3, none⟩ = some (.slice none 0 0) := by simp [World.cell?, HI.out.res]
                  have f0 := thaw HI.out.res 0
                  have f1 := thaw HI.out.res 1
                  have f2 := thaw HI.out.res 2
                  have f3 := thaw HI.out.res 3
                  clear hsv hgrow hLk
                  generalize hrl : (iterS (bldF f) k l).2.length = RL at *
                  have HRLL := Lib.hid hrl; clear hrl
                  go_wp2_with fail
                  refine bodyPost_ret (v := .tuple #[.agg #[.int .i64 (x.op % 24), .string (nName x), .int .i64 (nN x), .slice asv k capsv], .slice la RL lcap]) (by simp [results, Try.results67, go_sem, z0, z1, z2, z3]) rfl ?_
                  refine ⟨set4_below (M := w.heap.size) HI.out.below (Nat.le_refl _) 0 _ _ _ _, .slice asv k capsv, .slice la RL lcap, by rw [HT1.out]; rfl, by rw [HT1.out]; exact HFL.out, ?_, ?_⟩
                  · rw [HT1.out]
                    exact HRP.out.mono (fun z hz => by omega) (fun z o v hz hv => (set4_far wr w.heap.size 0 _ _ _ _ z o (by omega)).trans hv) (Nat.le_refl _)
                  · rw [HT2.out, HRLL.out]
                    exact HRW.out.mono (fun z hz => hz.1) (fun z o v hz hv => (set4_far wr w.heap.size 0 _ _ _ _ z o (by omega)).trans hv)
end Go.Proofs.Ytekhoanjpnjaeaa

