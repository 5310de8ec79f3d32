/- The contract of ref10.value. -/
import Derived.Test.YtekhoanjpnjaeaaDistinct
import Derived.Test.YtekhoanjpnjaeaaPlace
import Derived.Test.YtekhoanjpnjaeaaRefForm
namespace Go.Proofs.Ytekhoanjpnjaeaa
open Go.RowKit

structure EnvD where
  names : List ByteArray
  vals : List Int
  tnames : List ByteArray
  tabs : List (List (Int × Int))
  now : Int

/-- an environment in memory, as the reference has it -/
structure EnvRep (S : Nat → Prop) (w : World) (e : EnvD) (c1 c2 c3 c4 : Value) : Prop where
  names : Row S w 1 e.names.length c1 (e.names.map .string)
  vals : Row S w 1 e.vals.length c2 (e.vals.map (.int .i64))
  tnames : Row S w 1 e.tnames.length c3 (e.tnames.map .string)
  tabs : ∃ ts : List Value, Row S w 1 e.tabs.length c4 ts ∧ ∀ i (h : i < e.tabs.length), ∃ tv, ts[i]? = some tv ∧ Row S w 2 e.tabs[i].length tv (flat2 e.tabs[i])
  small : e.names.length < 4294967296 ∧ e.vals.length < 4294967296 ∧ e.tnames.length < 4294967296 ∧ e.tabs.length < 4294967296 ∧ ∀ t ∈ e.tabs, t.length < 4294967296
  nums : In64 e.now ∧ (∀ v ∈ e.vals, In64 v) ∧ ∀ t ∈ e.tabs, ∀ x ∈ t, In64 x.1 ∧ In64 x.2

def EnvD.valOf (e : EnvD) (s : ByteArray) : Int := e.vals[(placeN e.names s).getD 0]?.getD 0
def EnvD.tabOf (e : EnvD) (s : ByteArray) : List (Int × Int) := e.tabs[(placeN e.tnames s).getD 0]?.getD []
def valN (e : EnvD) (op : Int) (name : ByteArray) (n : Int) (vs : List Int) : Int :=
  if op = 1 then n else if op = 2 then 1 else if op = 3 then 0 else if op = 4 then e.now else if op = 5 then e.valOf name
  else if op = 6 then (lookT (e.tabOf name) (vs[0]?.getD 0)).getD 0 else if op = 7 then tr (lookT (e.tabOf name) (vs[0]?.getD 0)).isSome
  else if op = 8 then ((distL (e.tabOf name)).length : Int) else if op = 9 ∨ op = 10 then (unV op (vs[0]?.getD 0)).1
  else (binV op (vs[0]?.getD 0) (vs[1]?.getD 0)).1
mutual
def valT (e : EnvD) : Ex → Int | .node op name n args => valN e op name n (valL e args)
def valL (e : EnvD) : List Ex → List Int | [] => [] | t :: ts => valT e t :: valL e ts
end
theorem valL_map (e : EnvD) (l : List Ex) : valL e l = l.map (valT e) := by
  induction l with
  | nil => rfl
  | cons t ts ih => simp [valL, ih]
theorem valT_eq (e : EnvD) (t : Ex) : valT e t = valN e t.op t.name t.n (t.args.map (valT e)) := by
  obtain ⟨op, name, n, args⟩ := t
  rw [valT, valL_map]; rfl
def boundN (e : EnvD) (op : Int) (name : ByteArray) : Bool :=
  !(decide (op = 5) && (placeN e.names name).isNone) && !(decide (6 ≤ op ∧ op ≤ 8) && (placeN e.tnames name).isNone)
mutual
def boundT (e : EnvD) : Ex → Bool | .node op name _ args => boundN e op name && boundL e args
def boundL (e : EnvD) : List Ex → Bool | [] => true | t :: ts => boundT e t && boundL e ts
end
theorem boundL_iff (e : EnvD) (l : List Ex) : boundL e l = true ↔ ∀ t ∈ l, boundT e t = true := by
  induction l with
  | nil => simp [boundL]
  | cons t ts ih => simp [boundL, ih]
theorem boundT_eq (e : EnvD) (t : Ex) : boundT e t = (boundN e t.op t.name && boundL e t.args) := by
  obtain ⟨op, name, n, args⟩ := t
  rw [boundT]; rfl

def aggE (e : EnvD) (c1 c2 c3 c4 : Value) : Value := .agg #[c1, c2, c3, c4, .int .i64 e.now]

theorem EnvRep.below {S : Nat → Prop} {w w' : World} {e : EnvD} {c1 c2 c3 c4 : Value} (h : EnvRep S w e c1 c2 c3 c4) (hB : Below w.heap.size w w') : EnvRep S w' e c1 c2 c3 c4 := by
  obtain ⟨a, b, c, ⟨ts, d, hd⟩, f, g⟩ := h
  exact ⟨a.below hB, b.below hB, c.below hB, ⟨ts, d.below hB, fun i hi => by obtain ⟨tv, h1, h2⟩ := hd i hi; exact ⟨tv, h1, h2.below hB⟩⟩, f, g⟩

theorem find_nothing {α : Type} (l : List α) (p : α → Bool) (hn : ∀ i (h : i < l.length), p l[i] = false) : l.find? p = none := by
  rw [List.find?_eq_none]
  intro x hx
  obtain ⟨i, hi, rfl⟩ := List.getElem_of_mem hx
  rw [hn i hi]; simp
structure ValInv (w : World) (t : Ex) (e : EnvD) (c c1 c2 c3 c4 : Value) (k : Nat) (lv : Value) (wr : World) : Prop where
  below : Below w.heap.size w wr
  size : w.heap.size + 1 + 1 ≤ wr.heap.size
  bx : wr.heap[w.heap.size]? = some (.cells #[.int .i64 t.op, .string t.name, .int .i64 t.n, c] 36)
  be : wr.heap[w.heap.size + 1]? = some (.cells #[c1, c2, c3, c4, .int .i64 e.now] 93)
  own : wr.ownsRow (w.heap.size + 1 + 1) 2 1 lv k (((t.args.take k).map (valT e)).map (.int .i64))
  rng : ∀ i (h : i < t.args.length), i < k → In64 (valT e t.args[i])

def ValSaid (d : Nat) : Prop := ∀ (S S' : Nat → Prop) (t : Ex) (c : Value) (e : EnvD) (c1 c2 c3 c4 : Value) (w : World), Flds .i64 t → RepS .i64 S w d t.args c → EnvRep S' w e c1 c2 c3 c4 → t.formed = true → boundT e t = true → e.names.length = e.vals.length → e.tnames.length = e.tabs.length →
    Calls Try.prog 99 #[agg .i64 t c, aggE e c1 c2 c3 c4] w fun r w' => r = .returned (.int .i64 (valT e t)) ∧ In64 (valT e t) ∧ Below w.heap.size w w'

theorem ValInv.start (w : World) (t : Ex) (e : EnvD) (c c1 c2 c3 c4 : Value) : ValInv w t e c c1 c2 c3 c4 0 (.slice none 0 0) ((w.alloc (.cells #[.int .i64 t.op, .string t.name, .int .i64 t.n, c] 36)).alloc (.cells #[c1, c2, c3, c4, .int .i64 e.now] 93)) := by
  refine ⟨((Below.refl _ _).alloc (Nat.le_refl _) _).alloc (by simp) _, by simp, ?_, ?_, ⟨rfl, Or.inl ⟨rfl, rfl⟩⟩, fun _ _ h => absurd h (Nat.not_lt_zero _)⟩
  · rw [Below.heap_alloc _ _ _ (by simp)]; exact alloc_last _ _
  · exact alloc_at _ _ (by simp)
theorem ValInv.step {w wr w0 w1 w2 : World} {t x : Ex} {e : EnvD} {c c1 c2 c3 c4 : Value} {k : Nat} {lv lv' : Value} {o : Obj} (hI : ValInv w t e c c1 c2 c3 c4 k lv wr) (hk : k < t.args.length) (hx : t.args[k] = x) (h0 : Below wr.heap.size wr w0) (h1 : Below w0.heap.size w0 w1)
    (hg : (w1.alloc o).grownBy w2 lv.ownBlock) (ho : w2.ownsRow (w.heap.size + 1 + 1) 2 1 lv' (k + 1) (((t.args.take k).map (valT e)).map (.int .i64) ++ [.int .i64 (valT e x)])) (hr : In64 (valT e x)) (hon : ∀ y, lv.ownBlock = some y → w.heap.size + 1 + 1 ≤ y) :
    ValInv w t e c c1 c2 c3 c4 (k + 1) lv' w2 := by
  have hs := hI.size
  have h01 : Below wr.heap.size wr w1 := h0.trans (h1.mono h0.size)
  have hs1 := h01.size
  have e2 : ∀ y, y < wr.heap.size → y < w.heap.size + 1 + 1 → w2.heap[y]? = wr.heap[y]? := by
    intro y hy hy'
    rw [hg.block y (by rw [World.size_alloc]; omega) (fun e => by have := hon y e.symm; omega), Below.heap_alloc _ _ _ (by omega)]
    exact h01.block y hy
  have hs2 : wr.heap.size ≤ w2.heap.size := by have := hg.size; rw [World.size_alloc] at this; omega
  refine ⟨⟨?_, ?_, ?_, ?_, fun y hy => ?_⟩, by omega, ?_, ?_, ?_, fun i hi hik => ?_⟩
  · exact hg.os.trans (h01.os.trans hI.below.os)
  · exact hg.tape.trans (h01.tape.trans hI.below.tape)
  · exact hg.output.trans (h01.output.trans hI.below.output)
  · have := hI.below.size; omega
  · rw [e2 y (by omega) (by omega)]; exact hI.below.block y hy
  · rw [e2 _ (by omega) (by omega)]; exact hI.bx
  · rw [e2 _ (by omega) (by omega)]; exact hI.be
  · rw [List.take_succ_eq_append_getElem hk, hx, List.map_append, List.map_append]; exact ho
  · by_cases e : i = k
    · subst e; rw [hx]; exact hr
    · exact hI.rng i hi (by omega)

set_option maxRecDepth 100000 in
set_option maxHeartbeats 2000000 in
theorem value_any (d : Nat) : ValSaid d := by
  induction d using Nat.strongRecOn with
  | _ d ih =>
    intro S S' t c e c1 c2 c3 c4 w hf hr hE hfm hbd hn1 hn2
    have IH := Lib.hid ih; clear ih
    obtain ⟨a, cap, rfl⟩ := hr.shape
    obtain ⟨a1, cap1, rfl, _⟩ := hE.names.shape
    obtain ⟨a2, cap2, rfl, _⟩ := hE.vals.shape
    obtain ⟨a3, cap3, rfl, _⟩ := hE.tnames.shape
    obtain ⟨a4, cap4, rfl, _⟩ := hE.tabs.choose_spec.1.shape
    have HF := Lib.hid hf
    have HR := Lib.hid hr; clear hr
    have HE := Lib.hid hE; clear hE
    have HFM := Lib.hid hfm; clear hfm
    have HBD := Lib.hid hbd; clear hbd
    have HN := Lib.hid (And.intro hn1 hn2); clear hn1 hn2
    have hlen := hf.len
    clear hf
    obtain ⟨i0, hi0, hz0, hz1, hz2⟩ := info_parts Try.info2
    unfold agg aggE
    go_enter Try.func99, Try.ntmps99
    go_wp2_with fail
    go_loopw [5, 18] (fun lv i wr => ∃ k : Nat, k ≤ t.args.length ∧ i = .int .i64 k ∧ ValInv w t e (.slice a t.args.length cap) (.slice a1 e.names.length cap1) (.slice a2 e.vals.length cap2) (.slice a3 e.tnames.length cap3) (.slice a4 e.tabs.length cap4) k lv wr) (fun _ i _ => t.args.length - (intOf i).toNat)
    case atStart => exact ⟨0, Nat.zero_le _, rfl, ValInv.start _ _ _ _ _ _ _ _⟩
    case round =>
      obtain ⟨k, hk, rfl, hinv⟩ := hrel
      have HI := Lib.hid hinv; clear hinv
      obtain ⟨la, lcap, rfl, hlo⟩ := owns_shape HI.out.own
      have HLO := Lib.hid hlo; clear hlo
      by_cases hlt : k < t.args.length
      · have hne : t.args ≠ [] := by intro e; rw [e] at hlt; simp at hlt
        obtain ⟨d', b', off', rfl, rfl, _, _, hat⟩ := HR.out.at hne
        obtain ⟨g0, g1, g2, gf, c, g3, gc⟩ := (hat k hlt).below HI.out.below
        clear hat hne
        obtain ⟨ac, capc, rfl⟩ := gc.shape
        have HGC := Lib.hid gc; clear gc
        have HGF := Lib.hid gf; clear gf
        have hbr := cell_lt g0
        have hszr := HI.out.size
        have e0 : wr.cell? ⟨w.heap.size + 1, 0, none⟩ = some (.slice a1 e.names.length cap1) := by simp [World.cell?, HI.out.be]
        have e1 : wr.cell? ⟨w.heap.size + 1, 1, none⟩ = some (.slice a2 e.vals.length cap2) := by simp [World.cell?, HI.out.be]
        have e2 : wr.cell? ⟨w.heap.size + 1, 2, none⟩ = some (.slice a3 e.tnames.length cap3) := by simp [World.cell?, HI.out.be]
        have e3 : wr.cell? ⟨w.heap.size + 1, 3, none⟩ = some (.slice a4 e.tabs.length cap4) := by simp [World.cell?, HI.out.be]
        have e4 : wr.cell? ⟨w.heap.size + 1, 4, none⟩ = some (.int .i64 e.now) := by simp [World.cell?, HI.out.be]
        have hN1 : w.heap.size + 1 < wr.heap.size := by omega
        generalize hex : t.args[k] = x at *
        have HEX := Lib.hid hex; clear hex
        have HFX := Lib.hid (show x.formed = true from HEX.out ▸ (formed_args HFM.out).2 _ (List.getElem_mem hlt))
        have HBX := Lib.hid (show boundT e x = true by
          have h := HBD.out
          rw [boundT_eq, Bool.and_eq_true] at h
          exact HEX.out ▸ (boundL_iff e _).1 h.2 _ (List.getElem_mem hlt))
        have hm1 : k + 1 ≤ maxLen := by unfold maxLen; omega
        have hm2 : (k + 1) * 8 ≤ 140737488355328 := by omega
        go_wp2_with fail
        generalize hw0 : wr.alloc (.cells #[.int .i64 x.op, .string x.name, .int .i64 x.n, .slice ac x.args.length capc] 36) = w0
        have hB0 : Below wr.heap.size wr w0 := by rw [← hw0]; exact (Below.refl _ _).alloc (Nat.le_refl _) _
        clear hw0
        have HB0 := Lib.hid hB0; clear hB0
        have HWW := Lib.hid (show Below w.heap.size w w0 from HI.out.below.trans (HB0.out.mono HI.out.below.size))
        refine (IH.out d' (by omega) S S' x (.slice ac x.args.length capc) e (.slice a1 e.names.length cap1) (.slice a2 e.vals.length cap2) (.slice a3 e.tnames.length cap3) (.slice a4 e.tabs.length cap4) w0 HGF.out (HGC.out.below HB0.out) (HE.out.below HWW.out) HFX.out HBX.out HN.out.1 HN.out.2).mono ?_
        rintro r w1 ⟨rfl, hrg, hb1⟩
        have HRG := Lib.hid hrg; clear hrg
        have HB1 := Lib.hid hb1; clear hb1
        generalize hvx : valT e x = vx at *
        have HVX := Lib.hid hvx; clear hvx
        have hbs : w.heap.size + 1 + 1 ≤ (w1.alloc (.cells #[.int .i64 vx] 2)).heap.size := by
          have := HB0.out.size; have := HB1.out.size
          rw [World.size_alloc]; omega
        have HON := Lib.hid (owns_keep (w' := w1.alloc (.cells #[.int .i64 vx] 2)) HI.out.own (fun y hy => by
          have hy' := (HLO.out y hy).2
          have := HB0.out.size; have := HB1.out.size
          rw [Below.heap_alloc _ _ _ (by omega), HB1.out.block y (by omega)]; exact HB0.out.block y hy'))
        go_wp2_with (at_builtin; refine wpList_append_lies _ rfl _ _ _ rfl (w.heap.size + 1 + 1) 2 i0 _ 1 8 Try.underlying73 hi0 hz0 hz1 hz2 rfl (by omega) (.slice la k lcap) k _ rfl HON.out ⟨w1.heap.size, 0, none⟩ 1 1 [.int .i64 vx] rfl rfl (World.news_of_block (cs := #[.int .i64 vx]) (t := 2) (fr := (0, 0)) (heap_alloc_new w1 _)) (by simp [Value.oneCell']) (by omega) hm1 hm2 hbs _ rfl ?_; intro gg cap2' w2 hown2 hgrow2 hat2 hlt2)
        have HNI := Lib.hid (HI.out.step (x := x) (lv' := .slice (some ⟨gg, 0, none⟩) (k + 1) cap2') hlt HEX.out HB0.out HB1.out hgrow2 (by rw [HVX.out]; exact hown2) (by rw [HVX.out]; exact HRG.out) (fun y hy => (HLO.out y hy).1))
        clear hown2 hgrow2 hat2 hlt2
        go_wp2_with fail
        go_roundw
        case rel => exact ⟨k + 1, by omega, by go_num, HNI.out⟩
        case measure => simp [intOf]; omega
      · have hkk : k = t.args.length := by omega
        subst hkk
        have HVT := Lib.hid (valT_eq e t)
        have HVS : Hid (∃ vs : List Int, vs = t.args.map (valT e) ∧ vs.length = t.args.length ∧ (∀ v ∈ vs, In64 v) ∧ wr.ownsRow (w.heap.size + 1 + 1) 2 1 (.slice la t.args.length lcap) t.args.length (vs.map (.int .i64))) := Lib.hid ⟨_, rfl, by simp, fun v hv => by
          obtain ⟨y, hy, rfl⟩ := List.mem_map.1 hv
          obtain ⟨i, hi, rfl⟩ := List.getElem_of_mem hy
          exact HI.out.rng i hi hi, by have := HI.out.own; rwa [List.take_length] at this⟩
        obtain ⟨vs, hvs, hvl, hvr, hvo⟩ := HVS.out
        have HVR := Lib.hid (And.intro hvs (And.intro hvr hvo))
        have HVL := Lib.hid hvl
        clear hvs hvr hvo hvl HVS
        have hszr := HI.out.size
        have x0 : wr.cell? ⟨w.heap.size, 0, none⟩ = some (.int .i64 t.op) := by simp [World.cell?, HI.out.bx]
        have x1 : wr.cell? ⟨w.heap.size, 1, none⟩ = some (.string t.name) := by simp [World.cell?, HI.out.bx]
        have x2 : wr.cell? ⟨w.heap.size, 2, none⟩ = some (.int .i64 t.n) := by simp [World.cell?, HI.out.bx]
        have e0 : wr.cell? ⟨w.heap.size + 1, 0, none⟩ = some (.slice a1 e.names.length cap1) := by simp [World.cell?, HI.out.be]
        have e1 : wr.cell? ⟨w.heap.size + 1, 1, none⟩ = some (.slice a2 e.vals.length cap2) := by simp [World.cell?, HI.out.be]
        have e2 : wr.cell? ⟨w.heap.size + 1, 2, none⟩ = some (.slice a3 e.tnames.length cap3) := by simp [World.cell?, HI.out.be]
        have e3 : wr.cell? ⟨w.heap.size + 1, 3, none⟩ = some (.slice a4 e.tabs.length cap4) := by simp [World.cell?, HI.out.be]
        have e4 : wr.cell? ⟨w.heap.size + 1, 4, none⟩ = some (.int .i64 e.now) := by simp [World.cell?, HI.out.be]
        have HER := Lib.hid (HE.out.below HI.out.below)
        have hfa := formed_args HFM.out
        have hopr : 1 ≤ t.op ∧ t.op ≤ 23 := by
          have h1 := hfa.1
          unfold opnd at h1
          repeat' split at h1
          all_goals omega
        have HLN := Lib.hid hfa.1
        clear hfa
        have HBN := Lib.hid (show boundN e t.op t.name = true by have h := HBD.out; rw [boundT_eq, Bool.and_eq_true] at h; exact h.1)
        rcases (show t.op = 1 ∨ t.op = 2 ∨ t.op = 3 ∨ t.op = 4 ∨ t.op = 5 ∨ t.op = 6 ∨ t.op = 7 ∨ t.op = 8 ∨ t.op = 9 ∨ t.op = 10 ∨ 11 ≤ t.op by omega) with hop | hop | hop | hop | hop | hop | hop | hop | hop | hop | hop
        all_goals (obtain ⟨_, hopu⟩ := hopr)
        · have HOP := Lib.hid hop
          have q1 : (t.op == 1) = true := by rw [hop]; rfl
          clear hop
          have HV := Lib.hid (show valT e t = t.n by rw [HVT.out, valN, HOP.out]; rfl)
          go_wp2_with fail
          go_ret
          exact ⟨by rw [HV.out]; rfl, by rw [HV.out]; exact wf64 HF.out.n, HI.out.below⟩
        · have HOP := Lib.hid hop
          have q1 : (t.op == 1) = false := by rw [hop]; rfl
          have q2 : (t.op == 2) = true := by rw [hop]; rfl
          clear hop
          have HV := Lib.hid (show valT e t = 1 by rw [HVT.out, valN, HOP.out]; rfl)
          go_wp2_with fail
          go_ret
          exact ⟨by rw [HV.out]; rfl, by rw [HV.out]; exact ⟨by decide, by decide⟩, HI.out.below⟩
        · have HOP := Lib.hid hop
          have q1 : (t.op == 1) = false := by rw [hop]; rfl
          have q2 : (t.op == 2) = false := by rw [hop]; rfl
          have q3 : (t.op == 3) = true := by rw [hop]; rfl
          clear hop
          have HV := Lib.hid (show valT e t = 0 by rw [HVT.out, valN, HOP.out]; rfl)
          go_wp2_with fail
          go_ret
          exact ⟨by rw [HV.out]; rfl, by rw [HV.out]; exact ⟨by decide, by decide⟩, HI.out.below⟩
        · have HOP := Lib.hid hop
          have q1 : (t.op == 1) = false := by rw [hop]; rfl
          have q2 : (t.op == 2) = false := by rw [hop]; rfl
          have q3 : (t.op == 3) = false := by rw [hop]; rfl
          have q4 : (t.op == 4) = true := by rw [hop]; rfl
          clear hop
          have HV := Lib.hid (show valT e t = e.now by rw [HVT.out, valN, HOP.out]; rfl)
          go_wp2_with fail
          go_ret
          exact ⟨by rw [HV.out]; rfl, by rw [HV.out]; exact HER.out.nums.1, HI.out.below⟩
        · have HOP := Lib.hid hop
          have q1 : (t.op == 1) = false := by rw [hop]; rfl
          have q2 : (t.op == 2) = false := by rw [hop]; rfl
          have q3 : (t.op == 3) = false := by rw [hop]; rfl
          have q4 : (t.op == 4) = false := by rw [hop]; rfl
          have q5 : (t.op == 5) = true := by rw [hop]; rfl
          clear hop
          have HP : Hid (∃ pn, placeN e.names t.name = some pn) := Lib.hid (by
            have h := HBN.out
            rw [boundN, HOP.out] at h
            cases hp : placeN e.names t.name with
            | none => rw [hp] at h; simp at h
            | some pn => exact ⟨pn, rfl⟩)
          obtain ⟨pn, hpn⟩ := HP.out
          obtain ⟨hpl, _⟩ := placeN_lt _ _ _ hpn
          have HPV := Lib.hid (show placeV e.names t.name = pn by unfold placeV; rw [hpn])
          have hpv : pn < e.vals.length := by have := HN.out.1; omega
          have HV := Lib.hid (show valT e t = e.vals[pn] by rw [HVT.out, valN, HOP.out]; show e.valOf t.name = _; unfold EnvD.valOf; rw [hpn]; simp [hpv])
          have HRg := Lib.hid (HER.out.nums.2.1 _ (List.getElem_mem hpv))
          have HPL := Lib.hid (fun n => place_any S' e.names t.name (.slice a1 e.names.length cap1) (wr.drewN n) HER.out.small.1 (HER.out.names.below (below_drewN _ _ _)))
          obtain ⟨vb, voff, rfl, _, _, hvc⟩ := HER.out.vals.at (by omega)
          have v0 := hvc pn (.int .i64 e.vals[pn]) (by simp [hpv])
          clear hvc hpn HP
          generalize e.vals[pn] = vx at *
          go_wp2_with fail
          go_quiet ((go_at_call 128; exact Calls.quiet_of_same ((HPL.out _).mono fun _ _ h => ⟨by rw [h.1, HPV.out], h.2.symm⟩)))
          go_wp2_with fail
          go_ret
          exact ⟨by rw [HV.out]; rfl, by rw [HV.out]; exact HRg.out, HI.out.below.trans (below_drewN _ _ _)⟩
        · have HOP := Lib.hid hop
          have q1 : (t.op == 1) = false := by rw [hop]; rfl
          have q2 : (t.op == 2) = false := by rw [hop]; rfl
          have q3 : (t.op == 3) = false := by rw [hop]; rfl
          have q4 : (t.op == 4) = false := by rw [hop]; rfl
          have q5 : (t.op == 5) = false := by rw [hop]; rfl
          have q6 : (t.op == 6) = true := by rw [hop]; rfl
          have q7 : (t.op == 7) = false := by rw [hop]; rfl
          have q8 : (t.op == 8) = false := by rw [hop]; rfl
          clear hop
          have hl1 : t.args.length = 1 := by
            have h := HLN.out
            rw [HOP.out, show opnd 6 = 1 from by decide] at h
            omega
          have hl0 : 0 < vs.length := by have := HVL.out; omega
          obtain ⟨lg, lc, hle, _, l0⟩ := owns_cell HVR.out.2.2 (j := 0) (u := .int .i64 vs[0]) (by simp [hl0])
          simp only [Value.slice.injEq] at hle
          obtain ⟨rfl, _, _⟩ := hle
          have hl0' : 0 < t.args.length := by omega
          have hl0i : (0 : Int) < (t.args.length : Int) := by omega
          have HV0 := Lib.hid (show valT e t = (lookT (e.tabOf t.name) vs[0]).getD 0 by rw [HVT.out, valN, HOP.out, ← HVR.out.1]; show (lookT (e.tabOf t.name) (vs[0]?.getD 0)).getD 0 = _; simp [hl0])
          generalize hvx : vs[0] = vx at *
          have HL1 := Lib.hid hl1; clear hl1 hvx hl0
          have HP : Hid (∃ pn, placeN e.tnames t.name = some pn) := Lib.hid (by
            have h := HBN.out
            rw [boundN, HOP.out] at h
            cases hp : placeN e.tnames t.name with
            | none => rw [hp] at h; simp at h
            | some pn => exact ⟨pn, rfl⟩)
          obtain ⟨pn, hpn⟩ := HP.out
          obtain ⟨hpl, _⟩ := placeN_lt _ _ _ hpn
          have HPV := Lib.hid (show placeV e.tnames t.name = pn by unfold placeV; rw [hpn])
          have hpv : pn < e.tabs.length := by have := HN.out.2; omega
          have HTO := Lib.hid (show e.tabOf t.name = e.tabs[pn] by unfold EnvD.tabOf; rw [hpn]; simp [hpv])
          obtain ⟨ts, hts, htr⟩ := HER.out.tabs
          obtain ⟨tv, htv, hrow⟩ := htr pn hpv
          obtain ⟨tb, toff, rfl, _, _, htc⟩ := hts.at (by omega)
          have t0 := htc pn tv htv
          obtain ⟨ta, tcap, rfl, _⟩ := hrow.shape
          have HTL := Lib.hid (HER.out.small.2.2.2.2 _ (List.getElem_mem hpv))
          have HTN := Lib.hid (HER.out.nums.2.2 _ (List.getElem_mem hpv))
          clear htc hpn HP htr hts htv
          generalize htt : e.tabs[pn] = T at *
          clear htt
          obtain ⟨wd, hwd⟩ : ∃ wd, wd = wr.drew := ⟨_, rfl⟩
          have d0 : wd.cell? ⟨w.heap.size + 1, 3, none⟩ = some (.slice (some ⟨tb, toff, none⟩) e.tabs.length cap4) := by rw [hwd]; exact e3
          have d1 : wd.cell? ⟨w.heap.size + 1, 2, none⟩ = some (.slice a3 e.tnames.length cap3) := by rw [hwd]; exact e2
          have d2 : wd.cell? ⟨w.heap.size, 1, none⟩ = some (.string t.name) := by rw [hwd]; exact x1
          have d3 : wd.cell? ⟨tb, toff + pn, none⟩ = some (.slice ta T.length tcap) := by rw [hwd]; exact t0
          have d4 : wd.cell? ⟨w.heap.size, 0, none⟩ = some (.int .i64 t.op) := by rw [hwd]; exact x0
          have HPL := Lib.hid (show Calls Try.prog 128 #[.slice a3 e.tnames.length cap3, .string t.name] wd _ from place_any S' e.tnames t.name (.slice a3 e.tnames.length cap3) wd HER.out.small.2.2.1 (by rw [hwd]; exact HER.out.tnames.below (below_drewN wr 1 _)))
          have HDI := Lib.hid (distinct_any S' T (.slice ta T.length tcap) wd HTL.out (by rw [hwd]; exact hrow.below (below_drewN wr 1 _)))
          have HWD := Lib.hid hwd
          have HBD2 := Lib.hid (show Below w.heap.size w wd by rw [hwd]; exact HI.out.below.drew)
          have hpI : (pn : Int) < (e.tabs.length : Int) := by omega
          clear hrow t0 hwd
          go_wp2_with fail
          go_region_held3 (fun wx => wx.cell? ⟨w.heap.size + 1, 3, none⟩ = some (.slice (some ⟨tb, toff, none⟩) e.tabs.length cap4) ∧ wx.cell? ⟨w.heap.size + 1, 2, none⟩ = some (.slice a3 e.tnames.length cap3) ∧ wx.cell? ⟨w.heap.size, 1, none⟩ = some (.string t.name) ∧ wx.cell? ⟨tb, toff + pn, none⟩ = some (.slice ta T.length tcap)) (first | with_reducible exact ⟨d0, d1, d2, d3⟩ | (rw [← HWD.out]; with_reducible exact ⟨d0, d1, d2, d3⟩) | with_reducible exact ⟨f0, f1, f2, f3⟩) (first | (go_at_call 128; rw [← HWD.out]; refine HPL.out.mono ?_; rw [HPV.out]; rintro r w1 ⟨rfl, rfl⟩) | (go_at_call 129; (try rw [← HWD.out]); refine HDI.out.mono ?_; rintro r w2 ⟨hb2, dv, rfl, hdr⟩; obtain ⟨da, dcap, rfl, _⟩ := hdr.shape; have f0 := below_cell hb2 d0; have f1 := below_cell hb2 d1; have f2 := below_cell hb2 d2; have f3 := below_cell hb2 d3; have f4 := below_cell hb2 d4))
          have HB2 := Lib.hid (HBD2.out.trans (hb2.mono HBD2.out.size))
          have HB2' := Lib.hid hb2
          have HDR := Lib.hid hdr
          clear hb2 hdr f0 f1 f2 f3 hpI
          have HV := Lib.hid (show valT e t = (lookT (T) vx).getD 0 by rw [HV0.out, HTO.out])
          have hdl := distL_le T
          have htl := HTL.out
          have l0' : w2.cell? ⟨lg, 0, none⟩ = some (.int .i64 vx) := below_cell HB2'.out (by rw [HWD.out]; exact l0)
          have HL0 := Lib.hid l0'
          have HF4 := Lib.hid f4
          clear l0' l0 d0 d1 d2 d3 d4
          generalize hD : distL T = D at *
          have HDE := Lib.hid hD; clear hD
          go_wp2_with fail
          go_loopw [75] (fun i wx => ∃ k : Nat, k ≤ D.length ∧ i = .int .i64 k ∧ Hid (Below w2.heap.size w2 wx) ∧ Hid (∀ i (h : i < D.length), i < k → (D[i].1 == vx) = false)) (fun i _ => D.length - (intOf i).toNat)
          case atStart => exact ⟨0, Nat.zero_le _, rfl, Lib.hid (Below.refl _ _), Lib.hid fun i _ h => absurd h (Nat.not_lt_zero _)⟩
          case round =>
            obtain ⟨k, hk, rfl, HBK, HNO⟩ := hrel
            have k4 := below_cell HBK.out f4
            have kl := below_cell HBK.out HL0.out
            by_cases hlt : k < D.length
            · obtain ⟨b, off, rfl, _, _, hc⟩ := HDR.out.at (by omega)
              have y0 := below_cell HBK.out (hc _ _ (flat2_get D k hlt).1)
              have y1 := below_cell HBK.out (hc _ _ (flat2_get D k hlt).2)
              rw [← Nat.add_assoc] at y1
              have hyb := cell_lt y0
              have hklb := cell_lt kl
              have hk4b := cell_lt k4
              clear hc
              have HLK := Lib.hid (fun (h : (D[k].1 == vx) = true) => show lookT T vx = some D[k].2 by
                unfold lookT
                rw [HDE.out, find_first D _ k hlt h (fun i hi => HNO.out i (by omega) hi)]; rfl)
              have HKN := Lib.hid (fun (h : (D[k].1 == vx) = false) i (hi : i < D.length) (hik : i < k + 1) => show (D[i].1 == vx) = false by
                by_cases ee : i = k
                · subst ee; exact h
                · exact HNO.out i hi (by omega))
              have HRX := Lib.hid (show In64 D[k].2 from (HTN.out _ (distL_sub T _ (by rw [HDE.out]; exact List.getElem_mem hlt))).2)
              generalize hyy : D[k] = y at *
              obtain ⟨yk, yv⟩ := y
              simp only at y0 y1
              have HBA : Hid (∀ n, Below w2.heap.size w2 ((wr.alloc (.cells #[.int .i64 yk, .int .i64 yv] 178)).drewN n)) := Lib.hid fun n => (HBK.out.alloc HBK.out.size _).trans (below_drewN _ _ _)
              cases hxx : (yk == vx) with
              | true =>
                have HXX := Lib.hid hxx
                go_wp2_with fail
                go_quiet (fail)
                have HBW := Lib.hid (HB2.out.trans ((HBA.out nq).mono HB2.out.size))
                go_wp2_with fail
                go_ret
                exact ⟨by rw [HV.out, HLK.out HXX.out]; rfl, by rw [HV.out, HLK.out HXX.out]; exact HRX.out, HBW.out⟩
              | false =>
                have HXX := Lib.hid hxx
                go_wp2_with fail
                go_quiet (fail)
                go_wp2_with fail
                go_roundw
                case rel => exact ⟨k + 1, by omega, by go_num, Lib.hid (HBA.out nq), Lib.hid (HKN.out HXX.out)⟩
                case measure => simp [intOf]; omega
            · have HNN := Lib.hid (show lookT T vx = none by
                unfold lookT
                rw [HDE.out, find_nothing D _ (fun i hi => HNO.out i hi (by omega))]; rfl)
              have HBW := Lib.hid (HB2.out.trans (HBK.out.mono HB2.out.size))
              go_wp2_with fail
              go_ret
              exact ⟨by rw [HV.out, HNN.out]; rfl, by rw [HV.out, HNN.out]; exact ⟨by decide, by decide⟩, HBW.out⟩
        · have HOP := Lib.hid hop
          have q1 : (t.op == 1) = false := by rw [hop]; rfl
          have q2 : (t.op == 2) = false := by rw [hop]; rfl
          have q3 : (t.op == 3) = false := by rw [hop]; rfl
          have q4 : (t.op == 4) = false := by rw [hop]; rfl
          have q5 : (t.op == 5) = false := by rw [hop]; rfl
          have q6 : (t.op == 6) = false := by rw [hop]; rfl
          have q7 : (t.op == 7) = true := by rw [hop]; rfl
          have q8 : (t.op == 8) = false := by rw [hop]; rfl
          clear hop
          have hl1 : t.args.length = 1 := by
            have h := HLN.out
            rw [HOP.out, show opnd 7 = 1 from by decide] at h
            omega
          have hl0 : 0 < vs.length := by have := HVL.out; omega
          obtain ⟨lg, lc, hle, _, l0⟩ := owns_cell HVR.out.2.2 (j := 0) (u := .int .i64 vs[0]) (by simp [hl0])
          simp only [Value.slice.injEq] at hle
          obtain ⟨rfl, _, _⟩ := hle
          have hl0' : 0 < t.args.length := by omega
          have hl0i : (0 : Int) < (t.args.length : Int) := by omega
          have HV0 := Lib.hid (show valT e t = tr (lookT (e.tabOf t.name) vs[0]).isSome by rw [HVT.out, valN, HOP.out, ← HVR.out.1]; show tr (lookT (e.tabOf t.name) (vs[0]?.getD 0)).isSome = _; simp [hl0])
          generalize hvx : vs[0] = vx at *
          have HL1 := Lib.hid hl1; clear hl1 hvx hl0
          have HP : Hid (∃ pn, placeN e.tnames t.name = some pn) := Lib.hid (by
            have h := HBN.out
            rw [boundN, HOP.out] at h
            cases hp : placeN e.tnames t.name with
            | none => rw [hp] at h; simp at h
            | some pn => exact ⟨pn, rfl⟩)
          obtain ⟨pn, hpn⟩ := HP.out
          obtain ⟨hpl, _⟩ := placeN_lt _ _ _ hpn
          have HPV := Lib.hid (show placeV e.tnames t.name = pn by unfold placeV; rw [hpn])
          have hpv : pn < e.tabs.length := by have := HN.out.2; omega
          have HTO := Lib.hid (show e.tabOf t.name = e.tabs[pn] by unfold EnvD.tabOf; rw [hpn]; simp [hpv])
          obtain ⟨ts, hts, htr⟩ := HER.out.tabs
          obtain ⟨tv, htv, hrow⟩ := htr pn hpv
          obtain ⟨tb, toff, rfl, _, _, htc⟩ := hts.at (by omega)
          have t0 := htc pn tv htv
          obtain ⟨ta, tcap, rfl, _⟩ := hrow.shape
          have HTL := Lib.hid (HER.out.small.2.2.2.2 _ (List.getElem_mem hpv))
          have HTN := Lib.hid (HER.out.nums.2.2 _ (List.getElem_mem hpv))
          clear htc hpn HP htr hts htv
          generalize htt : e.tabs[pn] = T at *
          clear htt
          obtain ⟨wd, hwd⟩ : ∃ wd, wd = wr.drew := ⟨_, rfl⟩
          have d0 : wd.cell? ⟨w.heap.size + 1, 3, none⟩ = some (.slice (some ⟨tb, toff, none⟩) e.tabs.length cap4) := by rw [hwd]; exact e3
          have d1 : wd.cell? ⟨w.heap.size + 1, 2, none⟩ = some (.slice a3 e.tnames.length cap3) := by rw [hwd]; exact e2
          have d2 : wd.cell? ⟨w.heap.size, 1, none⟩ = some (.string t.name) := by rw [hwd]; exact x1
          have d3 : wd.cell? ⟨tb, toff + pn, none⟩ = some (.slice ta T.length tcap) := by rw [hwd]; exact t0
          have d4 : wd.cell? ⟨w.heap.size, 0, none⟩ = some (.int .i64 t.op) := by rw [hwd]; exact x0
          have HPL := Lib.hid (show Calls Try.prog 128 #[.slice a3 e.tnames.length cap3, .string t.name] wd _ from place_any S' e.tnames t.name (.slice a3 e.tnames.length cap3) wd HER.out.small.2.2.1 (by rw [hwd]; exact HER.out.tnames.below (below_drewN wr 1 _)))
          have HDI := Lib.hid (distinct_any S' T (.slice ta T.length tcap) wd HTL.out (by rw [hwd]; exact hrow.below (below_drewN wr 1 _)))
          have HWD := Lib.hid hwd
          have HBD2 := Lib.hid (show Below w.heap.size w wd by rw [hwd]; exact HI.out.below.drew)
          have hpI : (pn : Int) < (e.tabs.length : Int) := by omega
          clear hrow t0 hwd
          go_wp2_with fail
          go_region_held3 (fun wx => wx.cell? ⟨w.heap.size + 1, 3, none⟩ = some (.slice (some ⟨tb, toff, none⟩) e.tabs.length cap4) ∧ wx.cell? ⟨w.heap.size + 1, 2, none⟩ = some (.slice a3 e.tnames.length cap3) ∧ wx.cell? ⟨w.heap.size, 1, none⟩ = some (.string t.name) ∧ wx.cell? ⟨tb, toff + pn, none⟩ = some (.slice ta T.length tcap)) (first | with_reducible exact ⟨d0, d1, d2, d3⟩ | (rw [← HWD.out]; with_reducible exact ⟨d0, d1, d2, d3⟩) | with_reducible exact ⟨f0, f1, f2, f3⟩) (first | (go_at_call 128; rw [← HWD.out]; refine HPL.out.mono ?_; rw [HPV.out]; rintro r w1 ⟨rfl, rfl⟩) | (go_at_call 129; (try rw [← HWD.out]); refine HDI.out.mono ?_; rintro r w2 ⟨hb2, dv, rfl, hdr⟩; obtain ⟨da, dcap, rfl, _⟩ := hdr.shape; have f0 := below_cell hb2 d0; have f1 := below_cell hb2 d1; have f2 := below_cell hb2 d2; have f3 := below_cell hb2 d3; have f4 := below_cell hb2 d4))
          have HB2 := Lib.hid (HBD2.out.trans (hb2.mono HBD2.out.size))
          have HB2' := Lib.hid hb2
          have HDR := Lib.hid hdr
          clear hb2 hdr f0 f1 f2 f3 hpI
          have HV := Lib.hid (show valT e t = tr (lookT (T) vx).isSome by rw [HV0.out, HTO.out])
          have hdl := distL_le T
          have htl := HTL.out
          have l0' : w2.cell? ⟨lg, 0, none⟩ = some (.int .i64 vx) := below_cell HB2'.out (by rw [HWD.out]; exact l0)
          have HL0 := Lib.hid l0'
          have HF4 := Lib.hid f4
          clear l0' l0 d0 d1 d2 d3 d4
          generalize hD : distL T = D at *
          have HDE := Lib.hid hD; clear hD
          go_wp2_with fail
          go_loopw [75] (fun i wx => ∃ k : Nat, k ≤ D.length ∧ i = .int .i64 k ∧ Hid (Below w2.heap.size w2 wx) ∧ Hid (∀ i (h : i < D.length), i < k → (D[i].1 == vx) = false)) (fun i _ => D.length - (intOf i).toNat)
          case atStart => exact ⟨0, Nat.zero_le _, rfl, Lib.hid (Below.refl _ _), Lib.hid fun i _ h => absurd h (Nat.not_lt_zero _)⟩
          case round =>
            obtain ⟨k, hk, rfl, HBK, HNO⟩ := hrel
            have k4 := below_cell HBK.out f4
            have kl := below_cell HBK.out HL0.out
            by_cases hlt : k < D.length
            · obtain ⟨b, off, rfl, _, _, hc⟩ := HDR.out.at (by omega)
              have y0 := below_cell HBK.out (hc _ _ (flat2_get D k hlt).1)
              have y1 := below_cell HBK.out (hc _ _ (flat2_get D k hlt).2)
              rw [← Nat.add_assoc] at y1
              have hyb := cell_lt y0
              have hklb := cell_lt kl
              have hk4b := cell_lt k4
              clear hc
              have HLK := Lib.hid (fun (h : (D[k].1 == vx) = true) => show lookT T vx = some D[k].2 by
                unfold lookT
                rw [HDE.out, find_first D _ k hlt h (fun i hi => HNO.out i (by omega) hi)]; rfl)
              have HKN := Lib.hid (fun (h : (D[k].1 == vx) = false) i (hi : i < D.length) (hik : i < k + 1) => show (D[i].1 == vx) = false by
                by_cases ee : i = k
                · subst ee; exact h
                · exact HNO.out i hi (by omega))
              have HRX := Lib.hid (show In64 D[k].2 from (HTN.out _ (distL_sub T _ (by rw [HDE.out]; exact List.getElem_mem hlt))).2)
              generalize hyy : D[k] = y at *
              obtain ⟨yk, yv⟩ := y
              simp only at y0 y1
              have HBA : Hid (∀ n, Below w2.heap.size w2 ((wr.alloc (.cells #[.int .i64 yk, .int .i64 yv] 178)).drewN n)) := Lib.hid fun n => (HBK.out.alloc HBK.out.size _).trans (below_drewN _ _ _)
              cases hxx : (yk == vx) with
              | true =>
                have HXX := Lib.hid hxx
                go_wp2_with fail
                go_quiet (fail)
                have HBW := Lib.hid (HB2.out.trans ((HBA.out nq).mono HB2.out.size))
                go_wp2_with fail
                go_ret
                exact ⟨by rw [HV.out, HLK.out HXX.out]; rfl, by rw [HV.out, HLK.out HXX.out]; show In64 1; exact ⟨by decide, by decide⟩, HBW.out⟩
              | false =>
                have HXX := Lib.hid hxx
                go_wp2_with fail
                go_quiet (fail)
                go_wp2_with fail
                go_roundw
                case rel => exact ⟨k + 1, by omega, by go_num, Lib.hid (HBA.out nq), Lib.hid (HKN.out HXX.out)⟩
                case measure => simp [intOf]; omega
            · have HNN := Lib.hid (show lookT T vx = none by
                unfold lookT
                rw [HDE.out, find_nothing D _ (fun i hi => HNO.out i hi (by omega))]; rfl)
              have HBW := Lib.hid (HB2.out.trans (HBK.out.mono HB2.out.size))
              go_wp2_with fail
              go_ret
              exact ⟨by rw [HV.out, HNN.out]; rfl, by rw [HV.out, HNN.out]; exact ⟨by decide, by decide⟩, HBW.out⟩
        · have HOP := Lib.hid hop
          have q1 : (t.op == 1) = false := by rw [hop]; rfl
          have q2 : (t.op == 2) = false := by rw [hop]; rfl
          have q3 : (t.op == 3) = false := by rw [hop]; rfl
          have q4 : (t.op == 4) = false := by rw [hop]; rfl
          have q5 : (t.op == 5) = false := by rw [hop]; rfl
          have q6 : (t.op == 6) = false := by rw [hop]; rfl
          have q7 : (t.op == 7) = false := by rw [hop]; rfl
          have q8 : (t.op == 8) = true := by rw [hop]; rfl
          clear hop
          have HP : Hid (∃ pn, placeN e.tnames t.name = some pn) := Lib.hid (by
            have h := HBN.out
            rw [boundN, HOP.out] at h
            cases hp : placeN e.tnames t.name with
            | none => rw [hp] at h; simp at h
            | some pn => exact ⟨pn, rfl⟩)
          obtain ⟨pn, hpn⟩ := HP.out
          obtain ⟨hpl, _⟩ := placeN_lt _ _ _ hpn
          have HPV := Lib.hid (show placeV e.tnames t.name = pn by unfold placeV; rw [hpn])
          have hpv : pn < e.tabs.length := by have := HN.out.2; omega
          have HTO := Lib.hid (show e.tabOf t.name = e.tabs[pn] by unfold EnvD.tabOf; rw [hpn]; simp [hpv])
          obtain ⟨ts, hts, htr⟩ := HER.out.tabs
          obtain ⟨tv, htv, hrow⟩ := htr pn hpv
          obtain ⟨tb, toff, rfl, _, _, htc⟩ := hts.at (by omega)
          have t0 := htc pn tv htv
          obtain ⟨ta, tcap, rfl, _⟩ := hrow.shape
          have HTL := Lib.hid (HER.out.small.2.2.2.2 _ (List.getElem_mem hpv))
          have HTN := Lib.hid (HER.out.nums.2.2 _ (List.getElem_mem hpv))
          clear htc hpn HP htr hts htv
          generalize htt : e.tabs[pn] = T at *
          clear htt
          obtain ⟨wd, hwd⟩ : ∃ wd, wd = wr.drew := ⟨_, rfl⟩
          have d0 : wd.cell? ⟨w.heap.size + 1, 3, none⟩ = some (.slice (some ⟨tb, toff, none⟩) e.tabs.length cap4) := by rw [hwd]; exact e3
          have d1 : wd.cell? ⟨w.heap.size + 1, 2, none⟩ = some (.slice a3 e.tnames.length cap3) := by rw [hwd]; exact e2
          have d2 : wd.cell? ⟨w.heap.size, 1, none⟩ = some (.string t.name) := by rw [hwd]; exact x1
          have d3 : wd.cell? ⟨tb, toff + pn, none⟩ = some (.slice ta T.length tcap) := by rw [hwd]; exact t0
          have d4 : wd.cell? ⟨w.heap.size, 0, none⟩ = some (.int .i64 t.op) := by rw [hwd]; exact x0
          have HPL := Lib.hid (show Calls Try.prog 128 #[.slice a3 e.tnames.length cap3, .string t.name] wd _ from place_any S' e.tnames t.name (.slice a3 e.tnames.length cap3) wd HER.out.small.2.2.1 (by rw [hwd]; exact HER.out.tnames.below (below_drewN wr 1 _)))
          have HDI := Lib.hid (distinct_any S' T (.slice ta T.length tcap) wd HTL.out (by rw [hwd]; exact hrow.below (below_drewN wr 1 _)))
          have HWD := Lib.hid hwd
          have HBD2 := Lib.hid (show Below w.heap.size w wd by rw [hwd]; exact HI.out.below.drew)
          have hpI : (pn : Int) < (e.tabs.length : Int) := by omega
          clear hrow t0 hwd
          go_wp2_with fail
          go_region_held3 (fun wx => wx.cell? ⟨w.heap.size + 1, 3, none⟩ = some (.slice (some ⟨tb, toff, none⟩) e.tabs.length cap4) ∧ wx.cell? ⟨w.heap.size + 1, 2, none⟩ = some (.slice a3 e.tnames.length cap3) ∧ wx.cell? ⟨w.heap.size, 1, none⟩ = some (.string t.name) ∧ wx.cell? ⟨tb, toff + pn, none⟩ = some (.slice ta T.length tcap)) (first | with_reducible exact ⟨d0, d1, d2, d3⟩ | (rw [← HWD.out]; with_reducible exact ⟨d0, d1, d2, d3⟩) | with_reducible exact ⟨f0, f1, f2, f3⟩) (first | (go_at_call 128; rw [← HWD.out]; refine HPL.out.mono ?_; rw [HPV.out]; rintro r w1 ⟨rfl, rfl⟩) | (go_at_call 129; (try rw [← HWD.out]); refine HDI.out.mono ?_; rintro r w2 ⟨hb2, dv, rfl, hdr⟩; obtain ⟨da, dcap, rfl, _⟩ := hdr.shape; have f0 := below_cell hb2 d0; have f1 := below_cell hb2 d1; have f2 := below_cell hb2 d2; have f3 := below_cell hb2 d3; have f4 := below_cell hb2 d4))
          have HB2 := Lib.hid (HBD2.out.trans (hb2.mono HBD2.out.size))
          have HB2' := Lib.hid hb2
          have HDR := Lib.hid hdr
          clear hb2 hdr f0 f1 f2 f3 hpI
          have HV := Lib.hid (show valT e t = ((distL T).length : Int) by rw [HVT.out, valN, HOP.out]; show ((distL (e.tabOf t.name)).length : Int) = _; rw [HTO.out])
          have hdl := distL_le T
          have htl := HTL.out
          go_wp2_with fail
          go_ret
          exact ⟨by rw [HV.out]; rfl, by rw [HV.out]; constructor <;> omega, HB2.out⟩
        · have HOP := Lib.hid hop
          have q1 : (t.op == 1) = false := by rw [hop]; rfl
          have q2 : (t.op == 2) = false := by rw [hop]; rfl
          have q3 : (t.op == 3) = false := by rw [hop]; rfl
          have q4 : (t.op == 4) = false := by rw [hop]; rfl
          have q5 : (t.op == 5) = false := by rw [hop]; rfl
          have q6 : (t.op == 6) = false := by rw [hop]; rfl
          have q7 : (t.op == 7) = false := by rw [hop]; rfl
          have q8 : (t.op == 8) = false := by rw [hop]; rfl
          have q9 : (t.op == 9) = true := by rw [hop]; rfl
          have q10 : (t.op == 10) = false := by rw [hop]; rfl
          clear hop
          have hl1 : t.args.length = 1 := by
            have h := HLN.out
            rw [HOP.out, show opnd 9 = 1 from by decide] at h
            omega
          have hl0 : 0 < vs.length := by have := HVL.out; omega
          have HV := Lib.hid (show valT e t = (unV t.op vs[0]).1 by rw [HVT.out, valN, ← HVR.out.1]; simp [HOP.out, hl0])
          obtain ⟨lg, lc, hle, _, l0⟩ := owns_cell HVR.out.2.2 (j := 0) (u := .int .i64 vs[0]) (by simp [hl0])
          simp only [Value.slice.injEq] at hle
          obtain ⟨rfl, _, _⟩ := hle
          have hl0' : 0 < t.args.length := by omega
          generalize hvx : vs[0] = vx at *
          have HL1 := Lib.hid hl1; clear hl1 hvx hl0
          have HRu := Lib.hid (runary_any t.op vx)
          go_wp2_with fail
          go_quiet ((go_at_call 21; exact Calls.quiet_of_same ((HRu.out _).mono fun _ _ h => ⟨h.1, h.2.symm⟩)))
          go_wp2_with fail
          go_ret
          exact ⟨by rw [HV.out]; rfl, by rw [HV.out]; exact unV_range _ _, HI.out.below.trans (below_drewN _ _ _)⟩
        · have HOP := Lib.hid hop
          have q1 : (t.op == 1) = false := by rw [hop]; rfl
          have q2 : (t.op == 2) = false := by rw [hop]; rfl
          have q3 : (t.op == 3) = false := by rw [hop]; rfl
          have q4 : (t.op == 4) = false := by rw [hop]; rfl
          have q5 : (t.op == 5) = false := by rw [hop]; rfl
          have q6 : (t.op == 6) = false := by rw [hop]; rfl
          have q7 : (t.op == 7) = false := by rw [hop]; rfl
          have q8 : (t.op == 8) = false := by rw [hop]; rfl
          have q9 : (t.op == 9) = false := by rw [hop]; rfl
          have q10 : (t.op == 10) = true := by rw [hop]; rfl
          clear hop
          have hl1 : t.args.length = 1 := by
            have h := HLN.out
            rw [HOP.out, show opnd 10 = 1 from by decide] at h
            omega
          have hl0 : 0 < vs.length := by have := HVL.out; omega
          have HV := Lib.hid (show valT e t = (unV t.op vs[0]).1 by rw [HVT.out, valN, ← HVR.out.1]; simp [HOP.out, hl0])
          obtain ⟨lg, lc, hle, _, l0⟩ := owns_cell HVR.out.2.2 (j := 0) (u := .int .i64 vs[0]) (by simp [hl0])
          simp only [Value.slice.injEq] at hle
          obtain ⟨rfl, _, _⟩ := hle
          have hl0' : 0 < t.args.length := by omega
          generalize hvx : vs[0] = vx at *
          have HL1 := Lib.hid hl1; clear hl1 hvx hl0
          have HRu := Lib.hid (runary_any t.op vx)
          go_wp2_with fail
          go_quiet ((go_at_call 21; exact Calls.quiet_of_same ((HRu.out _).mono fun _ _ h => ⟨h.1, h.2.symm⟩)))
          go_wp2_with fail
          go_ret
          exact ⟨by rw [HV.out]; rfl, by rw [HV.out]; exact unV_range _ _, HI.out.below.trans (below_drewN _ _ _)⟩
        · have HOP := Lib.hid hop
          have q1 : (t.op == 1) = false := by simp; omega
          have q2 : (t.op == 2) = false := by simp; omega
          have q3 : (t.op == 3) = false := by simp; omega
          have q4 : (t.op == 4) = false := by simp; omega
          have q5 : (t.op == 5) = false := by simp; omega
          have q6 : (t.op == 6) = false := by simp; omega
          have q7 : (t.op == 7) = false := by simp; omega
          have q8 : (t.op == 8) = false := by simp; omega
          have q9 : (t.op == 9) = false := by simp; omega
          have q10 : (t.op == 10) = false := by simp; omega
          have hl2 : t.args.length = 2 := by
            have h := HLN.out
            unfold opnd at h
            rw [if_pos ⟨hop, hopu⟩] at h
            omega
          have hl0 : 0 < vs.length := by have := HVL.out; omega
          have hl1 : 1 < vs.length := by have := HVL.out; omega
          have HV := Lib.hid (show valT e t = (binV t.op vs[0] vs[1]).1 by
            rw [HVT.out, valN, ← HVR.out.1, if_neg (by omega), if_neg (by omega), if_neg (by omega), if_neg (by omega), if_neg (by omega), if_neg (by omega), if_neg (by omega), if_neg (by omega), if_neg (by omega)]; simp [hl0, hl1])
          obtain ⟨lg, lc, hle, _, l0⟩ := owns_cell HVR.out.2.2 (j := 0) (u := .int .i64 vs[0]) (by simp [hl0])
          obtain ⟨lg', lc', hle', _, l1⟩ := owns_cell HVR.out.2.2 (j := 1) (u := .int .i64 vs[1]) (by simp [hl1])
          simp only [Value.slice.injEq] at hle hle'
          obtain ⟨rfl, _, _⟩ := hle
          obtain ⟨hge, _, _⟩ := hle'
          cases hge
          have hl0' : (0 : Int) < (t.args.length : Int) := by omega
          have hl1' : (1 : Int) < (t.args.length : Int) := by omega
          have hl0'' : 0 < t.args.length := by omega
          have hl1'' : 1 < t.args.length := by omega
          have r0 := HVR.out.2.1 _ (List.getElem_mem hl0)
          have r1 := HVR.out.2.1 _ (List.getElem_mem hl1)
          generalize hvx : vs[0] = vx at *
          generalize hvy : vs[1] = vy at *
          have HRu := Lib.hid (fun w => rbinary_any t.op vx vy w r0.1 r0.2 r1.1 r1.2)
          have HRr := Lib.hid (binV_range t.op vx vy r0.1 r0.2)
          clear r0 r1 hl0 hl1 hl2 hop hopu hvx hvy
          go_wp2_with fail
          go_quiet ((go_at_call 23; exact Calls.quiet_of_same ((HRu.out _).mono fun _ _ h => ⟨h.1, h.2.symm⟩)))
          go_wp2_with fail
          go_ret
          exact ⟨by rw [HV.out]; rfl, by rw [HV.out]; exact HRr.out, HI.out.below.trans (below_drewN _ _ _)⟩
end Go.Proofs.Ytekhoanjpnjaeaa
