/- rootcauseref10.Reads (55). -/
import Derived.Test.YtekhoanjpnjaeaaRAdd
import Derived.Test.YtekhoanjpnjaeaaColl
namespace Go.Proofs.Ytekhoanjpnjaeaa
open Go.RowKit

theorem row_one {S : Nat → Prop} {w : World} {b : Nat} {s : ByteArray} {ty : TypeId} (h : w.heap[b]? = some (.cells #[.string s] ty)) (hS : S b) : Row S w 1 [s].length (.slice (some ⟨b, 0, none⟩) [s].length 1) (sV [s]) := by
  refine ⟨rfl, _, _, rfl, Nat.le_refl _, fun _ => ⟨b, 0, rfl, hS, fun j u hj => ?_⟩⟩
  rw [Nat.zero_add]
  have hx : (#[Value.string s] : Array Value).toList = sV [s] := rfl
  rw [← hx] at hj
  simpa [World.cell?, h] using hj
/-- The names after k operands. -/
noncomputable def nmK (b : Bool) (t : Ex) (k : Nat) : List ByteArray := setS (nmsN b t.op t.name ++ nmsL b (t.args.take k))
theorem nmK_step (b : Bool) (t : Ex) (k : Nat) (h : k < t.args.length) : (setS (nms b t.args[k])).foldl addS (nmK b t k) = nmK b t (k + 1) := by
  unfold nmK
  rw [setS_set, nmsL_take b t.args k h, List.append_assoc]
theorem nmK_end (b : Bool) (t : Ex) : nmK b t t.args.length = setS (nms b t) := by
  unfold nmK
  rw [List.take_length, nms_eq]
theorem nmK_asc (b : Bool) (t : Ex) (k : Nat) : AscS (nmK b t k) := setS_asc _
theorem setS_nil : setS [] = [] := rfl
theorem setS_one (s : ByteArray) : setS [s] = [s] := by unfold setS; rw [List.foldl_cons, List.foldl_nil, addS]
theorem foldS_len (X l : List ByteArray) : (X.foldl addS l).length ≤ l.length + X.length := by
  induction X generalizing l with
  | nil => simp
  | cons x r ih =>
    have h : ∀ (l : List ByteArray) (s : ByteArray), (addS l s).length ≤ l.length + 1 := by
      intro l s
      induction l with
      | nil => simp [addS]
      | cons x r ih =>
        rw [addS]
        split
        · simp
        · split
          · simp
          · simp; omega
    have h3 := ih (addS l x); have := h l x; simp only [List.foldl_cons, List.length_cons]; omega
theorem nmK_len {b : Bool} {t : Ex} {M k : Nat} (hM : (nms b t).length ≤ M) : (nmK b t k).length ≤ M := by
  refine Nat.le_trans (setS_len _) (Nat.le_trans ?_ hM)
  rw [nms_eq, List.length_append, List.length_append]
  have := nmsL_le b t.args k
  omega
theorem sub_len {b : Bool} {t : Ex} {M k : Nat} (hM : (nms b t).length ≤ M) (h : k < t.args.length) : (nms b t.args[k]).length ≤ M := by
  have := sum_le (k := b) (t := t) (X := []) (M := M) (by simpa using hM) h
  omega
theorem foldS_step (X l : List ByteArray) (j : Nat) (h : j < X.length) : addS ((X.take j).foldl addS l) X[j] = (X.take (j + 1)).foldl addS l := by
  rw [List.take_succ_eq_append_getElem h, List.foldl_append, List.foldl_cons, List.foldl_nil]

def RReadsSaid (d : Nat) : Prop := ∀ (S : Nat → Prop) (t : Ex) (c : Value) (w : World), Flds .i64 t → RepS .i64 S w d t.args c → (nms false t).length ≤ 1000 → (nms true t).length ≤ 1000 →
    Calls Try.prog 55 #[agg .i64 t c] w fun e w' => More w w' ∧ ∃ a1 c1 a2 c2, e = .returned (.tuple #[.slice a1 (setS (nms false t)).length c1, .slice a2 (setS (nms true t)).length c2]) ∧
      Row (fun _ => True) w' 1 (setS (nms false t)).length (.slice a1 (setS (nms false t)).length c1) (sV (setS (nms false t))) ∧ Row (fun _ => True) w' 1 (setS (nms true t)).length (.slice a2 (setS (nms true t)).length c2) (sV (setS (nms true t)))

set_option maxHeartbeats 4000000 in
set_option maxRecDepth 100000 in
theorem rreads_any (d : Nat) : RReadsSaid d := by
  induction d using Nat.strongRecOn with
  | _ d ih =>
    intro S t c w hf hr hA hB
    have IH := Lib.hid ih; clear ih
    obtain ⟨a, cap, rfl⟩ := hr.shape
    have HF := Lib.hid hf
    have HR := Lib.hid hr; clear hr
    have HA := Lib.hid hA; clear hA
    have HB := Lib.hid hB; clear hB
    have hlen := hf.len
    clear hf
    unfold agg
    have H0 := Lib.hid (show nmK false t 0 = setS (nmsN false t.op t.name) by unfold nmK; rw [List.take_zero, nmsL, List.append_nil])
    have H1 := Lib.hid (show nmK true t 0 = setS (nmsN true t.op t.name) by unfold nmK; rw [List.take_zero, nmsL, List.append_nil])
    have hcases : t.op = 5 ∨ (6 ≤ t.op ∧ t.op ≤ 8) ∨ t.op < 5 ∨ 8 < t.op := by omega
    rcases hcases with h5 | h5 | h5 | h5
    case' inl =>
      have t5 : (t.op == 5) = true := by simp [h5]
      have t6 : decide (6 ≤ t.op) = false := by simp [h5]
      have HN0 := Lib.hid (show nmK false t 0 = [t.name] by rw [H0.out, show nmsN false t.op t.name = [t.name] by unfold nmsN; simp [h5], setS_one])
      have HT0 := Lib.hid (show nmK true t 0 = [] by rw [H1.out, show nmsN true t.op t.name = [] by unfold nmsN; simp [h5], setS_nil])
      clear h5
      go_enter Try.func55, Try.ntmps55
      go_wp2_with fail
      have hm0 : More w ((w.alloc (.cells #[.int .i64 t.op, .string t.name, .int .i64 t.n, .slice a t.args.length cap] 36)).alloc (.cells #[.string t.name] 9)) := grownBy_alloc2 _ _ _ _
      have hb0 : ((w.alloc (.cells #[.int .i64 t.op, .string t.name, .int .i64 t.n, .slice a t.args.length cap] 36)).alloc (.cells #[.string t.name] 9)).heap[w.heap.size + 1]? = some (.cells #[.string t.name] 9) := alloc_at _ _ (by simp)
      generalize ((w.alloc (.cells #[.int .i64 t.op, .string t.name, .int .i64 t.n, .slice a t.args.length cap] 36)).alloc (.cells #[.string t.name] 9)) = w0 at *
      have HM0 := Lib.hid hm0
      have HX0 := Lib.hid (show ∃ a c, (.slice (some ⟨w.heap.size + 1, 0, none⟩) 1 1) = Value.slice a (nmK false t 0).length c ∧ Row (fun _ => True) w0 1 (nmK false t 0).length (.slice (some ⟨w.heap.size + 1, 0, none⟩) 1 1) (sV (nmK false t 0)) from ⟨_, _, by rw [HN0.out]; rfl, by rw [HN0.out]; exact row_one hb0 trivial⟩)
      have HY0 := Lib.hid (show ∃ a c, (.slice none 0 0) = Value.slice a (nmK true t 0).length c ∧ Row (fun _ => True) w0 1 (nmK true t 0).length (.slice none 0 0) (sV (nmK true t 0)) from ⟨_, _, by rw [HT0.out]; rfl, by rw [HT0.out]; exact Row.nil _ _ _ _ _⟩)
      clear hm0 hb0
    case' inr.inl =>
      have t5 : (t.op == 5) = false := by simp; omega
      have t6 : decide (6 ≤ t.op) = true := by simp; omega
      have t8 : decide (t.op ≤ 8) = true := by simp; omega
      have HN0 := Lib.hid (show nmK false t 0 = [] by rw [H0.out, show nmsN false t.op t.name = [] by unfold nmsN; simp; omega, setS_nil])
      have HT0 := Lib.hid (show nmK true t 0 = [t.name] by rw [H1.out, show nmsN true t.op t.name = [t.name] by unfold nmsN; simp; omega, setS_one])
      clear h5
      go_enter Try.func55, Try.ntmps55
      go_wp2_with fail
      have hm0 : More w ((w.alloc (.cells #[.int .i64 t.op, .string t.name, .int .i64 t.n, .slice a t.args.length cap] 36)).alloc (.cells #[.string t.name] 9)) := grownBy_alloc2 _ _ _ _
      have hb0 : ((w.alloc (.cells #[.int .i64 t.op, .string t.name, .int .i64 t.n, .slice a t.args.length cap] 36)).alloc (.cells #[.string t.name] 9)).heap[w.heap.size + 1]? = some (.cells #[.string t.name] 9) := alloc_at _ _ (by simp)
      generalize ((w.alloc (.cells #[.int .i64 t.op, .string t.name, .int .i64 t.n, .slice a t.args.length cap] 36)).alloc (.cells #[.string t.name] 9)) = w0 at *
      have HM0 := Lib.hid hm0
      have HX0 := Lib.hid (show ∃ a c, (.slice none 0 0) = Value.slice a (nmK false t 0).length c ∧ Row (fun _ => True) w0 1 (nmK false t 0).length (.slice none 0 0) (sV (nmK false t 0)) from ⟨_, _, by rw [HN0.out]; rfl, by rw [HN0.out]; exact Row.nil _ _ _ _ _⟩)
      have HY0 := Lib.hid (show ∃ a c, (.slice (some ⟨w.heap.size + 1, 0, none⟩) 1 1) = Value.slice a (nmK true t 0).length c ∧ Row (fun _ => True) w0 1 (nmK true t 0).length (.slice (some ⟨w.heap.size + 1, 0, none⟩) 1 1) (sV (nmK true t 0)) from ⟨_, _, by rw [HT0.out]; rfl, by rw [HT0.out]; exact row_one hb0 trivial⟩)
      clear hm0 hb0
    case' inr.inr.inl =>
      have t5 : (t.op == 5) = false := by simp; omega
      have t6 : decide (6 ≤ t.op) = false := by simp; omega
      have HN0 := Lib.hid (show nmK false t 0 = [] by rw [H0.out, show nmsN false t.op t.name = [] by unfold nmsN; simp; omega, setS_nil])
      have HT0 := Lib.hid (show nmK true t 0 = [] by rw [H1.out, show nmsN true t.op t.name = [] by unfold nmsN; simp; omega, setS_nil])
      clear h5
      go_enter Try.func55, Try.ntmps55
      go_wp2_with fail
      have hm0 : More w (w.alloc (.cells #[.int .i64 t.op, .string t.name, .int .i64 t.n, .slice a t.args.length cap] 36)) := World.grownBy_alloc _ _ _
      generalize (w.alloc (.cells #[.int .i64 t.op, .string t.name, .int .i64 t.n, .slice a t.args.length cap] 36)) = w0 at *
      have HM0 := Lib.hid hm0
      have HX0 := Lib.hid (show ∃ a c, (.slice none 0 0) = Value.slice a (nmK false t 0).length c ∧ Row (fun _ => True) w0 1 (nmK false t 0).length (.slice none 0 0) (sV (nmK false t 0)) from ⟨_, _, by rw [HN0.out]; rfl, by rw [HN0.out]; exact Row.nil _ _ _ _ _⟩)
      have HY0 := Lib.hid (show ∃ a c, (.slice none 0 0) = Value.slice a (nmK true t 0).length c ∧ Row (fun _ => True) w0 1 (nmK true t 0).length (.slice none 0 0) (sV (nmK true t 0)) from ⟨_, _, by rw [HT0.out]; rfl, by rw [HT0.out]; exact Row.nil _ _ _ _ _⟩)
      clear hm0
    case' inr.inr.inr =>
      have t5 : (t.op == 5) = false := by simp; omega
      have t6 : decide (6 ≤ t.op) = true := by simp; omega
      have t8 : decide (t.op ≤ 8) = false := by simp; omega
      have HN0 := Lib.hid (show nmK false t 0 = [] by rw [H0.out, show nmsN false t.op t.name = [] by unfold nmsN; simp; omega, setS_nil])
      have HT0 := Lib.hid (show nmK true t 0 = [] by rw [H1.out, show nmsN true t.op t.name = [] by unfold nmsN; simp; omega, setS_nil])
      clear h5
      go_enter Try.func55, Try.ntmps55
      go_wp2_with fail
      have hm0 : More w (w.alloc (.cells #[.int .i64 t.op, .string t.name, .int .i64 t.n, .slice a t.args.length cap] 36)) := World.grownBy_alloc _ _ _
      generalize (w.alloc (.cells #[.int .i64 t.op, .string t.name, .int .i64 t.n, .slice a t.args.length cap] 36)) = w0 at *
      have HM0 := Lib.hid hm0
      have HX0 := Lib.hid (show ∃ a c, (.slice none 0 0) = Value.slice a (nmK false t 0).length c ∧ Row (fun _ => True) w0 1 (nmK false t 0).length (.slice none 0 0) (sV (nmK false t 0)) from ⟨_, _, by rw [HN0.out]; rfl, by rw [HN0.out]; exact Row.nil _ _ _ _ _⟩)
      have HY0 := Lib.hid (show ∃ a c, (.slice none 0 0) = Value.slice a (nmK true t 0).length c ∧ Row (fun _ => True) w0 1 (nmK true t 0).length (.slice none 0 0) (sV (nmK true t 0)) from ⟨_, _, by rw [HT0.out]; rfl, by rw [HT0.out]; exact Row.nil _ _ _ _ _⟩)
      clear hm0
    all_goals
      clear H0 H1 HN0 HT0
      go_loopw [2, 3, 32] (fun x y i wr => ∃ (k : Nat) (a1 : Option Addr) (c1 : Nat) (a2 : Option Addr) (c2 : Nat), k ≤ t.args.length ∧ i = .int .i64 k ∧ x = .slice a1 (nmK false t k).length c1 ∧ y = .slice a2 (nmK true t k).length c2 ∧ Hid (More w wr) ∧ Hid (Row (fun _ => True) wr 1 (nmK false t k).length (.slice a1 (nmK false t k).length c1) (sV (nmK false t k))) ∧ Hid (Row (fun _ => True) wr 1 (nmK true t k).length (.slice a2 (nmK true t k).length c2) (sV (nmK true t k)))) (fun _ _ i _ => t.args.length - (intOf i).toNat)
      case atStart =>
        obtain ⟨xa, xc, ex, rx⟩ := HX0.out
        obtain ⟨ya, yc, ey, ry⟩ := HY0.out
        exact ⟨0, xa, xc, ya, yc, Nat.zero_le _, rfl, ex, ey, HM0, Lib.hid (by rw [← ex]; exact rx), Lib.hid (by rw [← ey]; exact ry)⟩
      case round =>
        clear HX0 HY0 HM0
        obtain ⟨k, a1, c1, a2, c2, hk, rfl, rfl, rfl, HM, HX, HY⟩ := hrel
        by_cases hlt : k < t.args.length
        · have hne : t.args ≠ [] := by intro e; rw [e] at hlt; simp at hlt
          obtain ⟨d', b', off', rfl, rfl, _, _, hat⟩ := HR.out.at hne
          obtain ⟨g0, g1, g2, gf, c, g3, gc⟩ := (hat k hlt).below HM.out.below
          clear hat hne
          obtain ⟨ac, capc, rfl⟩ := gc.shape
          have HGC := Lib.hid gc; clear gc
          have HGF := Lib.hid gf; clear gf
          have hbr := cell_lt g0
          have HSA := Lib.hid (nmK_step false t k hlt)
          have HSB := Lib.hid (nmK_step true t k hlt)
          have HLA := Lib.hid (sub_len HA.out hlt)
          have HLB := Lib.hid (sub_len HB.out hlt)
          have HKA := Lib.hid (nmK_len (k := k) HA.out)
          have HKB := Lib.hid (nmK_len (k := k) HB.out)
          have HAA := Lib.hid (nmK_asc false t k)
          have HAB := Lib.hid (nmK_asc true t k)
          generalize t.args[k] = x at *
          generalize nmK false t k = NA at *
          generalize nmK true t k = NB at *
          go_wp2_with fail
          have hmB : More wr (wr.alloc (.cells #[.int .i64 x.op, .string x.name, .int .i64 x.n, .slice ac x.args.length capc] 36)) := World.grownBy_alloc _ _ _
          generalize wr.alloc (.cells #[.int .i64 x.op, .string x.name, .int .i64 x.n, .slice ac x.args.length capc] 36) = wb at *
          have HMB := Lib.hid hmB; clear hmB
          have HXB := Lib.hid (HX.out.below HMB.out.below)
          have HYB := Lib.hid (HY.out.below HMB.out.below)
          clear g0 g1 g2 g3 hbr
          refine (IH.out d' (by omega) S x (.slice ac x.args.length capc) wb HGF.out (HGC.out.below HMB.out.below) HLA.out HLB.out).mono ?_
          rintro e w5 ⟨hm5, na, nc, ta, tc, rfl, hr5, hs5⟩
          have HNL := Lib.hid (setS_len (nms false x))
          have HTL := Lib.hid (setS_len (nms true x))
          generalize setS (nms false x) = PA at *
          generalize setS (nms true x) = PB at *
          have HM5 := Lib.hid (more_trans HM.out (more_trans HMB.out hm5))
          have HP5 := Lib.hid hr5
          have HQ5 := Lib.hid hs5
          have HX5 := Lib.hid (HXB.out.below hm5.below)
          have HY5 := Lib.hid (HYB.out.below hm5.below)
          clear hm5 hr5 hs5
          have hpl : PA.length ≤ 1000 := by have := HNL.out; have := HLA.out; omega
          have hql : PB.length ≤ 1000 := by have := HTL.out; have := HLB.out; omega
          have hcp := HP5.out.shape
          have hcq := HQ5.out.shape
          obtain ⟨_, _, ecp, hcp⟩ := hcp
          cases ecp
          obtain ⟨_, _, ecq, hcq⟩ := hcq
          cases ecq
          go_wp2_with fail
          obtain ⟨wo, rfl⟩ : ∃ wo : World, wo = wr := ⟨_, rfl⟩
          go_loopw [2, 43] (fun x i wy => ∃ (j : Nat) (a c : Option Addr × Nat), j ≤ PA.length ∧ i = .int .i64 j ∧ x = .slice a.1 ((PA.take j).foldl addS NA).length a.2 ∧ Hid (More w5 wy) ∧ Hid (Row (fun _ => True) wy 1 ((PA.take j).foldl addS NA).length (.slice a.1 ((PA.take j).foldl addS NA).length a.2) (sV ((PA.take j).foldl addS NA)))) (fun _ i _ => PA.length - (intOf i).toNat)
          case atStart => exact ⟨0, (a1, c1), (a1, c1), Nat.zero_le _, rfl, rfl, Lib.hid (World.grownBy.refl _ _), HX5⟩
          case round =>
            obtain ⟨j, ⟨ja, jc⟩, _, hj, rfl, rfl, HMJ, HJ⟩ := hrel
            by_cases hltj : j < PA.length
            · obtain ⟨b2, o2, rfl, _, _, hc⟩ := HP5.out.at (by omega)
              have g0 := HMJ.out.cell (hc _ _ (sV_get PA j hltj))
              have HST := Lib.hid (foldS_step PA NA j hltj)
              have HAJ := Lib.hid (foldS_asc (PA.take j) NA HAA.out)
              have HLJ := Lib.hid (show ((PA.take j).foldl addS NA).length ≤ 1000000 by have h1 := foldS_len (PA.take j) NA; have h2 := List.length_take_le j PA; have h3 := HKA.out; have h4 := hpl; omega)
              clear hc
              generalize PA[j] = y at *
              obtain ⟨MJ, hMJ⟩ : ∃ MJ, (PA.take j).foldl addS NA = MJ := ⟨_, rfl⟩
              rw [hMJ] at HST HAJ HLJ HJ
              rw [hMJ]
              clear hMJ
              go_wp2_with fail
              refine (radd_any (fun _ => True) MJ y _ wr HLJ.out HAJ.out HJ.out).mono ?_
              rintro e w6 ⟨hm6, ja', jc', rfl, ho6⟩
              rw [HST.out]
              rw [HST.out] at ho6
              have HM6 := Lib.hid (more_trans HMJ.out hm6)
              have HO6 := Lib.hid ((Row.of_owns ho6).mono (S' := fun _ => True) (fun _ _ => trivial) (fun _ _ _ _ h => h))
              clear hm6 ho6
              go_wp2_with fail
              go_roundw
              case rel => exact ⟨j + 1, (ja', jc'), (ja', jc'), by omega, by go_num, rfl, HM6, HO6⟩
              case measure => simp [intOf]; omega
            · have HJE := Lib.hid (show (PA.take j).foldl addS NA = nmK false t (k + 1) by rw [List.take_of_length_le (by omega)]; exact HSA.out)
              rw [HJE.out] at HJ
              rw [HJE.out]
              have HY6 := Lib.hid (HY5.out.below HMJ.out.below)
              have HQ6 := Lib.hid (HQ5.out.below HMJ.out.below)
              clear HJE
              go_wp2_with fail
              clear hj hltj
              obtain ⟨wy, rfl⟩ : ∃ wy : World, wy = wr := ⟨_, rfl⟩
              go_loopw [3, 53] (fun x i wz => ∃ (j : Nat) (a c : Option Addr × Nat), j ≤ PB.length ∧ i = .int .i64 j ∧ x = .slice a.1 ((PB.take j).foldl addS NB).length a.2 ∧ Hid (More wy wz) ∧ Hid (Row (fun _ => True) wz 1 ((PB.take j).foldl addS NB).length (.slice a.1 ((PB.take j).foldl addS NB).length a.2) (sV ((PB.take j).foldl addS NB)))) (fun _ i _ => PB.length - (intOf i).toNat)
              case atStart => exact ⟨0, (a2, c2), (a2, c2), Nat.zero_le _, rfl, rfl, Lib.hid (World.grownBy.refl _ _), HY6⟩
              case round =>
                obtain ⟨j, ⟨qa, qc⟩, _, hj, rfl, rfl, HMQ, HJQ⟩ := hrel
                by_cases hltj : j < PB.length
                · obtain ⟨b2, o2, rfl, _, _, hc⟩ := HQ6.out.at (by omega)
                  have g0 := HMQ.out.cell (hc _ _ (sV_get PB j hltj))
                  have HST := Lib.hid (foldS_step PB NB j hltj)
                  have HAJ := Lib.hid (foldS_asc (PB.take j) NB HAB.out)
                  have HLJ := Lib.hid (show ((PB.take j).foldl addS NB).length ≤ 1000000 by have h1 := foldS_len (PB.take j) NB; have h2 := List.length_take_le j PB; have h3 := HKB.out; have h4 := hql; omega)
                  clear hc
                  generalize PB[j] = y at *
                  obtain ⟨MJ, hMJ⟩ : ∃ MJ, (PB.take j).foldl addS NB = MJ := ⟨_, rfl⟩
                  rw [hMJ] at HST HAJ HLJ HJQ
                  rw [hMJ]
                  clear hMJ
                  go_wp2_with fail
                  refine (radd_any (fun _ => True) MJ y _ wr HLJ.out HAJ.out HJQ.out).mono ?_
                  rintro e w6 ⟨hm6, ja', jc', rfl, ho6⟩
                  rw [HST.out]
                  rw [HST.out] at ho6
                  have HM6 := Lib.hid (more_trans HMQ.out hm6)
                  have HO6 := Lib.hid ((Row.of_owns ho6).mono (S' := fun _ => True) (fun _ _ => trivial) (fun _ _ _ _ h => h))
                  clear hm6 ho6
                  go_wp2_with fail
                  go_roundw
                  case rel => exact ⟨j + 1, (ja', jc'), (ja', jc'), by omega, by go_num, rfl, HM6, HO6⟩
                  case measure => simp [intOf]; omega
                · have HJE := Lib.hid (show (PB.take j).foldl addS NB = nmK true t (k + 1) by rw [List.take_of_length_le (by omega)]; exact HSB.out)
                  rw [HJE.out] at HJQ
                  rw [HJE.out]
                  have HM8 := Lib.hid (more_trans HM5.out (more_trans HMJ.out HMQ.out))
                  have HX8 := Lib.hid (HJ.out.below HMQ.out.below)
                  clear HJE
                  go_wp2_with fail
                  go_roundw
                  case rel => exact ⟨k + 1, ja, jc, qa, qc, by omega, by go_num, rfl, rfl, HM8, HX8, HJQ⟩
                  case measure => simp [intOf]; omega
        · have hkk : k = t.args.length := by omega
          subst hkk
          have HEA := Lib.hid (nmK_end false t)
          have HEB := Lib.hid (nmK_end true t)
          rw [HEA.out] at HX
          rw [HEB.out] at HY
          rw [HEA.out, HEB.out]
          go_wp2_with fail
          go_ret2
          exact ⟨HM.out, a1, c1, a2, c2, rfl, HX.out, HY.out⟩
end Go.Proofs.Ytekhoanjpnjaeaa
