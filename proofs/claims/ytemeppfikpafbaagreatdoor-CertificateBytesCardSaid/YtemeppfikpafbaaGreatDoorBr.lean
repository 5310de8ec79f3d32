/- Texts AwkG, laid together. -/
import Derived.Test.YtemeppfikpafbaaGreatDoorBd
import Derived.Test.YtemeppfikpafbaaGreatDoorBj
import Derived.Test.YtemeppfikpafbaaGreatDoorBo
/- rootcauselaw50.awake (48). -/
namespace Go.Proofs.YtemeppfikpafbaaGreatDoor
open Go.RowKit
theorem wpList_built {P : Program} {w : World} {ops : Array Oper} {rest : List Oper} {o : Oper} {a : Act} {Q : Exit → Act → World → Prop} (hg : o.guard = none) (t : TypeId) (parts : Array (Nat × Operand)) (ho : o.op = .build t parts) (cells : Array Value)
    (hc : P.built t (parts.map fun (i, x) => (i, a.eval x)).toList = some cells) (h : wpList P ops Q rest (a.put o.dst (.agg cells)) w) : wpList P ops Q (o :: rest) a w := by
  refine wpList_build hg t parts ho (by rw [hc]; rfl) ?_
  rw [hc]
  exact h
def kE : K4 := ⟨4, 0, 0, 0⟩
def xE : GV := (.slice none 0 0, ⟨kE, 2, 0, []⟩)
theorem xE_ok : CgOk xE.2 := by
  unfold xE kE
  refine ⟨⟨?_, ?_, ?_, ?_, ?_, ?_, ?_, ?_⟩, ?_, ?_, ?_, ?_, ?_⟩ <;> decide
theorem yieldsIf_load98 {ops : Array Oper} {S : World → Prop} {op : Oper} {a : Act} (hw : Region.wanted op (yielded ops a.tmps) = true) (x : Operand) (ho : op.op = .load 35 x) (B : Nat) (hx : a.eval x = .pointer (some ⟨B, 0, none⟩)) (A : Array Value) (hs : A.size = 39) (hS : ∀ w, S w → w.heap[B]? = some (.cells A 35)) : YieldsIf Tryz.prog ops S op (.agg A) a :=
  .inl ⟨hw, fun w h => by
    unfold execOp
    simp only [ho, hx, Instr.loadAt, Instr.sureAddr, Sem.run_bind, Sem.run_pure, Result.andThen_ok, ld98 hs (hS w h)]⟩
theorem rows3 {W : World} {X Y Z : Nat} {c A : Array Value} {t : TypeId} (hx : W.heap[X]? = some (.cells c t)) (hy : W.heap[Y]? = some (.cells c t)) (hz : W.heap[Z]? = some (.cells c t)) (xy : X ≠ Y) (yz : Y ≠ Z) (xz : X ≠ Z) :
    (W.setRow X A).heap[Y]? = some (.cells c t) ∧ ((W.setRow X A).setRow Y A).heap[Z]? = some (.cells c t) ∧ (((W.setRow X A).setRow Y A).setRow Z A).heap[X]? = some (.cells A t) ∧ (((W.setRow X A).setRow Y A).setRow Z A).heap[Y]? = some (.cells A t) ∧ (((W.setRow X A).setRow Y A).setRow Z A).heap[Z]? = some (.cells A t) := by
  have h1 : (W.setRow X A).heap[Y]? = some (.cells c t) := (setRow_other _ _ _ _ (Ne.symm xy)).trans hy
  have h2 : ((W.setRow X A).setRow Y A).heap[Z]? = some (.cells c t) := (setRow_other _ _ _ _ (Ne.symm yz)).trans ((setRow_other _ _ _ _ (Ne.symm xz)).trans hz)
  exact ⟨h1, h2, (setRow_other _ _ _ _ xz).trans ((setRow_other _ _ _ _ xy).trans (setRow_heap _ _ _ _ _ _ hx)), (setRow_other _ _ _ _ yz).trans (setRow_heap _ _ _ _ _ _ h1), setRow_heap _ _ _ _ _ _ h2⟩
theorem rows3_same {W : World} {X Y Z B : Nat} {A : Array Value} (hx : B ≠ X) (hy : B ≠ Y) (hz : B ≠ Z) : (W.setRow X A).heap[B]? = W.heap[B]? ∧ ((W.setRow X A).setRow Y A).heap[B]? = W.heap[B]? ∧ (((W.setRow X A).setRow Y A).setRow Z A).heap[B]? = W.heap[B]? :=
  ⟨setRow_other _ _ _ _ hx, (setRow_other _ _ _ _ hy).trans (setRow_other _ _ _ _ hx), (setRow_other _ _ _ _ hz).trans ((setRow_other _ _ _ _ hy).trans (setRow_other _ _ _ _ hx))⟩
theorem wpList_load98g {ops : Array Oper} {rest : List Oper} {o : Oper} {a : Act} {w : World} {Q : Exit → Act → World → Prop} (hw : Region.wanted o (yielded ops a.tmps) = true) (x : Operand) (ho : o.op = .load 35 x) (g : Nat) (hx : a.eval x = .pointer (some ⟨g, 0, none⟩)) (cs : Array Value) (hg : w.heap[g]? = some (.cells cs 35)) (hs : cs.size = 39)
    (h : wpList Tryz.prog ops Q rest (a.put o.dst (.agg cs)) w) : wpList Tryz.prog ops Q (o :: rest) a w :=
  BigFrame.wpList_want hw fun _ hK => wp_load_row 35 x ho g hx 35 cs (0, 0) _ hg Tryz.underlying35 rfl (by rw [hs]; exact info98) (hK _ _ h)
theorem rowE {W : World} {B : Nat} {k a b n : Int} (h : W.heap[B]? = some (.cells #[.int .u8 k, .int .i64 a, .int .i64 b, .int .i64 n] 53)) : Row anyB W 4 [(⟨k, a, b, n⟩ : K4)].length (.slice (some ⟨B, 0, none⟩) 1 1) (flatC kC [⟨k, a, b, n⟩]) :=
  ⟨rfl, _, _, rfl, Nat.le_refl _, fun _ => ⟨B, 0, rfl, trivial, fun j u hj => by rw [Nat.zero_add]; exact cell_of_blk h (by rw [List.getElem?_toArray]; exact hj)⟩⟩
theorem encE (fl : List Int) (c : Cert) (h : fl.length = 32) : ∃ t, encCt fl c = 1 :: t ∧ 33 ≤ t.length :=
  ⟨fl ++ (encU (qB c.q).length ++ (qB c.q ++ (encU c.hor.toNat ++ (encU (encS (c.S.map (·.2))).length ++ (encS (c.S.map (·.2)) ++ (encU c.U.length ++ (c.U.flatMap encK ++ (encU c.H.length ++ (c.H.flatMap encHo ++ (encU c.wit.toNat ++ encU c.spl.toNat)))))))))), by simp only [encCt, encCs, List.append_assoc, List.cons_append, List.nil_append], by
    rw [List.length_append, h, List.length_append]
    have := encU_pos (qB c.q).length
    omega⟩
theorem set_ne8 {arr : Array Value} {i j : Nat} {v : Value} (h : i ≠ j) : (arr.setIfInBounds i v)[j]? = arr[j]? := Array.getElem?_setIfInBounds_ne h
theorem set_eq8 {arr : Array Value} {i : Nat} {v : Value} (h : i < arr.size) : (arr.setIfInBounds i v)[i]? = some v := Array.getElem?_setIfInBounds_self_of_lt h
/-- The example, with other keys and another split. -/
def cE (sa : Option Addr) (sc : Nat) (y : GV) (uv : Value) (U : List K4) (spl : Int) : Cert := ⟨ByteArray.mk #[], 8, .slice sa 1 sc, [y], uv, U, .slice none 0 0, [], 0, spl⟩
theorem certE {W : World} {arr : Array Value} {sa : Option Addr} {sc : Nat} {y : GV} {uv : Value} {U : List K4} {spl : Int} (hs : arr.size = 39) (h32 : arr[32]? = some (.string (ByteArray.mk #[]))) (h33 : arr[33]? = some (.int .i64 8)) (h34 : arr[34]? = some (.slice sa 1 sc)) (h35 : arr[35]? = some uv) (h36 : arr[36]? = some (.slice none 0 0)) (h37 : arr[37]? = some (.int .i64 0)) (h38 : arr[38]? = some (.int .i64 spl))
    (hset : SetAt anyB W (.slice sa 1 sc) [y]) (hu : Row anyB W 4 U.length uv (flatC kC U)) (hl : U.length ≤ 16) : CertAt W arr (cE sa sc y uv U spl) :=
  ⟨hs, h32, h33, h34, h35, h36, h37, h38, hset, hu, Row.nil _ _ _ _ _, fun p hp => (by cases hp), hl, Nat.zero_le _⟩
theorem cE_R2 {sa : Option Addr} {sc : Nat} {y : GV} {uv : Value} {U : List K4} {spl : Int} : R2 (cE sa sc y uv U spl) ↔ (spl < 0 ∨ 8 < spl) := by
  unfold R2 cE
  dsimp only
  omega
theorem cE_hold {sa : Option Addr} {sc : Nat} {y : GV} {uv : Value} {U : List K4} {spl : Int} : HoldsOk (cE sa sc y uv U spl).hor (cE sa sc y uv U spl).H := ⟨fun i h => by simp [cE] at h, fun p hp => by simp [cE] at hp, fun p hp => by simp [cE] at hp⟩
theorem cE_q {sa : Option Addr} {sc : Nat} {y : GV} {uv : Value} {U : List K4} {spl : Int} : ¬ 2000 < (cE sa sc y uv U spl).q.size := by
  show ¬ 2000 < (0 : Nat)
  omega
theorem cE_one {sa : Option Addr} {sc : Nat} {y : GV} {uv : Value} {k : K4} : ¬ R1 (cE sa sc y uv [k] 0) ∧ UA (cE sa sc y uv [k] 0) := by
  constructor
  · unfold R1 cE
    simp
  · intro i h
    simp [cE] at h
theorem cE_ok {sa : Option Addr} {sc : Nat} {y : GV} {uv : Value} (hy : y.2 = xE.2) : Chk (cE sa sc y uv [kE] 0) 0 := by
  refine Or.inr ⟨cE_q, Or.inr ⟨by rw [cE_R2]; omega, Or.inr ⟨cE_one.1, Or.inr ⟨⟨cE_one.2, cE_hold⟩, Or.inr ⟨?_, rfl⟩⟩⟩⟩⟩
  intro k hk
  have hk : k = kE := by simpa [cE] using hk
  subst hk
  show hasG [y] kE = true
  unfold hasG
  simp [hy, xE]
theorem cE_late {sa : Option Addr} {sc : Nat} {y : GV} {uv : Value} : Chk (cE sa sc y uv [kE] 9) 2 := Or.inr ⟨cE_q, Or.inl ⟨by rw [cE_R2]; omega, rfl⟩⟩
theorem cE_empty {sa : Option Addr} {sc : Nat} {y : GV} {uv : Value} : Chk (cE sa sc y uv [] 0) 1 := Or.inr ⟨cE_q, Or.inr ⟨by rw [cE_R2]; omega, Or.inl ⟨Or.inl (by show 0 < 1; omega), rfl⟩⟩⟩
theorem cE_wrong {sa : Option Addr} {sc : Nat} {y : GV} {uv : Value} (hy : y.2 = xE.2) : Chk (cE sa sc y uv [⟨5, 0, 0, 0⟩] 0) 4 := by
  refine Or.inr ⟨cE_q, Or.inr ⟨by rw [cE_R2]; omega, Or.inr ⟨cE_one.1, Or.inr ⟨⟨cE_one.2, cE_hold⟩, Or.inl ⟨?_, rfl⟩⟩⟩⟩⟩
  intro h
  have h1 : hasG [y] ⟨5, 0, 0, 0⟩ = true := h _ (by simp [cE])
  unfold hasG at h1
  simp [hy, xE, kE] at h1
set_option maxRecDepth 100000 in
set_option maxHeartbeats 4000000 in
theorem awake48_any (w : World) : Calls Tryz.prog 4 #[] w fun e w' => e = .returned (.bool true) ∧ Below w.heap.size w w' := by
  obtain ⟨N, HN⟩ : ∃ N, Hid (N = w.heap.size) := ⟨_, Lib.hid rfl⟩
  have HK1 := Lib.hid (alloc_last w (.cells #[.int .u8 4, .int .i64 0, .int .i64 0, .int .i64 0] 53))
  have HM1 := Lib.hid (more_alloc w (.cells #[.int .u8 4, .int .i64 0, .int .i64 0, .int .i64 0] 53))
  rw [← HN.out] at HK1 ⊢
  go_enter Tryz.func4, Tryz.ntmps4
  go_upto_region 2 with (fail)
  rw [← HN.out]
  generalize w.alloc (.cells #[.int .u8 4, .int .i64 0, .int .i64 0, .int .i64 0] 53) = w1 at *
  have k0 : w1.cell? ⟨N, 0, none⟩ = some (.int .u8 4) := cell_of_blk HK1.out rfl
  have k1 : w1.cell? ⟨N, 1, none⟩ = some (.int .i64 0) := cell_of_blk HK1.out rfl
  have k2 : w1.cell? ⟨N, 2, none⟩ = some (.int .i64 0) := cell_of_blk HK1.out rfl
  have k3 : w1.cell? ⟨N, 3, none⟩ = some (.int .i64 0) := cell_of_blk HK1.out rfl
  have hbk := cell_lt k0
  go_wp2_with fail
  have HX2 := Lib.hid (alloc_last w1 (.cells #[.int .u8 4, .int .i64 0, .int .i64 0, .int .i64 0, .int .i64 2, .int .i64 0, .slice none 0 0] 58))
  have HM2 := Lib.hid (more_trans HM1.out (more_alloc w1 (.cells #[.int .u8 4, .int .i64 0, .int .i64 0, .int .i64 0, .int .i64 2, .int .i64 0, .slice none 0 0] 58)))
  have HK2 := Lib.hid (((more_alloc w1 (.cells #[.int .u8 4, .int .i64 0, .int .i64 0, .int .i64 0, .int .i64 2, .int .i64 0, .slice none 0 0] 58)).block (blk_lt HK1.out)).trans HK1.out)
  generalize w1.alloc (.cells #[.int .u8 4, .int .i64 0, .int .i64 0, .int .i64 0, .int .i64 2, .int .i64 0, .slice none 0 0] 58) = w2 at *
  generalize w1.heap.size = XB at *
  clear k0 k1 k2 k3 hbk
  have HRW := Lib.hid (show Row anyB w2 7 [xE].length (.slice (some ⟨XB, 0, none⟩) 1 1) (flatC gC [xE]) from ⟨rfl, _, _, rfl, Nat.le_refl _, fun _ => ⟨XB, 0, rfl, trivial, fun j u hj => by rw [Nat.zero_add]; exact cell_of_blk HX2.out (by rw [List.getElem?_toArray]; exact hj)⟩⟩)
  refine (new86_gen [xE] _ w2 (by decide) HRW.out (fun p hp => by
    rw [List.mem_singleton] at hp; subst hp
    exact ⟨⟨Row.nil _ _ _ _ _, fun n c e => by cases e; rfl⟩, by decide⟩) (fun p hp => by rw [List.mem_singleton] at hp; subst hp; exact xE_ok) (List.pairwise_singleton _ _)).mono ?_
  rintro e w3 ⟨⟨v3, S, rfl, hrow, hmap, harg⟩, hb3⟩
  obtain ⟨sa, sc, rfl, _⟩ := hrow.shape
  have HM3 := Lib.hid (more_trans HM2.out (more_of hb3))
  have HK3 := Lib.hid (((more_of hb3).block (blk_lt HK2.out)).trans HK2.out)
  obtain ⟨y, rfl⟩ := List.length_eq_one_iff.1 (show S.length = 1 by simpa using congrArg List.length hmap)
  have hy : y.2 = xE.2 := by simpa using hmap
  have HS3 := Lib.hid (show SetAt (fun b => w2.heap.size ≤ b) w3 (.slice sa [y].length sc) [y] from ⟨hrow, harg, fun p hp => by rw [List.mem_singleton] at hp; subst hp; rw [hy]; exact xE_ok, List.pairwise_singleton _ _, by show 1 ≤ 96; decide⟩)
  have HY := Lib.hid hy
  clear hrow hmap harg hb3 hy HRW HX2
  have HB4 := Lib.hid (alloc_last w3 (.cells #[.slice sa [y].length sc] 33))
  have HM4 := Lib.hid (more_alloc w3 (.cells #[.slice sa [y].length sc] 33))
  go_upto_region 3 with (fail)
  generalize w3.alloc (.cells #[.slice sa [y].length sc] 33) = w4 at *
  obtain ⟨SB, HSE⟩ : ∃ SB, Hid (SB = w3.heap.size) := ⟨_, Lib.hid rfl⟩
  rw [← HSE.out] at HB4 ⊢
  have HK4 := Lib.hid ((HM4.out.block (blk_lt HK3.out)).trans HK3.out)
  have k0 : w4.cell? ⟨N, 0, none⟩ = some (.int .u8 4) := cell_of_blk HK4.out rfl
  have k1 : w4.cell? ⟨N, 1, none⟩ = some (.int .i64 0) := cell_of_blk HK4.out rfl
  have k2 : w4.cell? ⟨N, 2, none⟩ = some (.int .i64 0) := cell_of_blk HK4.out rfl
  have k3 : w4.cell? ⟨N, 3, none⟩ = some (.int .i64 0) := cell_of_blk HK4.out rfl
  have hbk := cell_lt k0
  have s0 : w4.cell? ⟨SB, 0, none⟩ = some (.slice sa 1 sc) := cell_of_blk HB4.out rfl
  have hbs := cell_lt s0
  obtain ⟨hu1, hu2, hu3⟩ := boxed2 w4 (.cells #[.int .u8 4, .int .i64 0, .int .i64 0, .int .i64 0] 53) (.cells #[.int .u8 0, .int .u8 0, .int .u8 0, .int .u8 0, .int .u8 0, .int .u8 0, .int .u8 0, .int .u8 0, .int .u8 0, .int .u8 0, .int .u8 0, .int .u8 0, .int .u8 0, .int .u8 0, .int .u8 0, .int .u8 0, .int .u8 0, .int .u8 0, .int .u8 0, .int .u8 0, .int .u8 0, .int .u8 0, .int .u8 0, .int .u8 0, .int .u8 0, .int .u8 0, .int .u8 0, .int .u8 0, .int .u8 0, .int .u8 0, .int .u8 0, .int .u8 0, .string (ByteArray.mk #[]), .int .i64 0, .slice none 0 0, .slice none 0 0, .slice none 0 0, .int .i64 0, .int .i64 0] 35)
  have HU2 := Lib.hid hu2; clear hu2
  go_upto_region 4 with (first | (refine wpList_built rfl 35 _ rfl #[.int .u8 0, .int .u8 0, .int .u8 0, .int .u8 0, .int .u8 0, .int .u8 0, .int .u8 0, .int .u8 0, .int .u8 0, .int .u8 0, .int .u8 0, .int .u8 0, .int .u8 0, .int .u8 0, .int .u8 0, .int .u8 0, .int .u8 0, .int .u8 0, .int .u8 0, .int .u8 0, .int .u8 0, .int .u8 0, .int .u8 0, .int .u8 0, .int .u8 0, .int .u8 0, .int .u8 0, .int .u8 0, .int .u8 0, .int .u8 0, .int .u8 0, .int .u8 0, .string (ByteArray.mk #[]), .int .i64 8, .slice sa 1 sc, .slice (some ⟨w4.heap.size, 0, none⟩) 1 1, .slice none 0 0, .int .i64 0, .int .i64 0] (by kernel_rfl) ?_) | (refine wpList_store_row rfl 35 _ _ rfl (w4.heap.size + 1) #[.int .u8 0, .int .u8 0, .int .u8 0, .int .u8 0, .int .u8 0, .int .u8 0, .int .u8 0, .int .u8 0, .int .u8 0, .int .u8 0, .int .u8 0, .int .u8 0, .int .u8 0, .int .u8 0, .int .u8 0, .int .u8 0, .int .u8 0, .int .u8 0, .int .u8 0, .int .u8 0, .int .u8 0, .int .u8 0, .int .u8 0, .int .u8 0, .int .u8 0, .int .u8 0, .int .u8 0, .int .u8 0, .int .u8 0, .int .u8 0, .int .u8 0, .int .u8 0, .string (ByteArray.mk #[]), .int .i64 8, .slice sa 1 sc, .slice (some ⟨w4.heap.size, 0, none⟩) 1 1, .slice none 0 0, .int .i64 0, .int .i64 0] rfl rfl 35 _ HU2.out info98 (by kernel_rfl) (by kernel_rfl) ?_))
  have HC5 := Lib.hid (setRow_heap _ (w4.heap.size + 1) _ #[.int .u8 0, .int .u8 0, .int .u8 0, .int .u8 0, .int .u8 0, .int .u8 0, .int .u8 0, .int .u8 0, .int .u8 0, .int .u8 0, .int .u8 0, .int .u8 0, .int .u8 0, .int .u8 0, .int .u8 0, .int .u8 0, .int .u8 0, .int .u8 0, .int .u8 0, .int .u8 0, .int .u8 0, .int .u8 0, .int .u8 0, .int .u8 0, .int .u8 0, .int .u8 0, .int .u8 0, .int .u8 0, .int .u8 0, .int .u8 0, .int .u8 0, .int .u8 0, .string (ByteArray.mk #[]), .int .i64 8, .slice sa 1 sc, .slice (some ⟨w4.heap.size, 0, none⟩) 1 1, .slice none 0 0, .int .i64 0, .int .i64 0] 35 (0, 0) HU2.out)
  have HU5 := Lib.hid ((setRow_other ((w4.alloc (.cells #[.int .u8 4, .int .i64 0, .int .i64 0, .int .i64 0] 53)).alloc (.cells #[.int .u8 0, .int .u8 0, .int .u8 0, .int .u8 0, .int .u8 0, .int .u8 0, .int .u8 0, .int .u8 0, .int .u8 0, .int .u8 0, .int .u8 0, .int .u8 0, .int .u8 0, .int .u8 0, .int .u8 0, .int .u8 0, .int .u8 0, .int .u8 0, .int .u8 0, .int .u8 0, .int .u8 0, .int .u8 0, .int .u8 0, .int .u8 0, .int .u8 0, .int .u8 0, .int .u8 0, .int .u8 0, .int .u8 0, .int .u8 0, .int .u8 0, .int .u8 0, .string (ByteArray.mk #[]), .int .i64 0, .slice none 0 0, .slice none 0 0, .slice none 0 0, .int .i64 0, .int .i64 0] 35)) (w4.heap.size + 1) w4.heap.size #[.int .u8 0, .int .u8 0, .int .u8 0, .int .u8 0, .int .u8 0, .int .u8 0, .int .u8 0, .int .u8 0, .int .u8 0, .int .u8 0, .int .u8 0, .int .u8 0, .int .u8 0, .int .u8 0, .int .u8 0, .int .u8 0, .int .u8 0, .int .u8 0, .int .u8 0, .int .u8 0, .int .u8 0, .int .u8 0, .int .u8 0, .int .u8 0, .int .u8 0, .int .u8 0, .int .u8 0, .int .u8 0, .int .u8 0, .int .u8 0, .int .u8 0, .int .u8 0, .string (ByteArray.mk #[]), .int .i64 8, .slice sa 1 sc, .slice (some ⟨w4.heap.size, 0, none⟩) 1 1, .slice none 0 0, .int .i64 0, .int .i64 0] (by omega)).trans hu1)
  have HM5 := Lib.hid (show More w4 (((w4.alloc (.cells #[.int .u8 4, .int .i64 0, .int .i64 0, .int .i64 0] 53)).alloc (.cells #[.int .u8 0, .int .u8 0, .int .u8 0, .int .u8 0, .int .u8 0, .int .u8 0, .int .u8 0, .int .u8 0, .int .u8 0, .int .u8 0, .int .u8 0, .int .u8 0, .int .u8 0, .int .u8 0, .int .u8 0, .int .u8 0, .int .u8 0, .int .u8 0, .int .u8 0, .int .u8 0, .int .u8 0, .int .u8 0, .int .u8 0, .int .u8 0, .int .u8 0, .int .u8 0, .int .u8 0, .int .u8 0, .int .u8 0, .int .u8 0, .int .u8 0, .int .u8 0, .string (ByteArray.mk #[]), .int .i64 0, .slice none 0 0, .slice none 0 0, .slice none 0 0, .int .i64 0, .int .i64 0] 35)).setRow (w4.heap.size + 1) #[.int .u8 0, .int .u8 0, .int .u8 0, .int .u8 0, .int .u8 0, .int .u8 0, .int .u8 0, .int .u8 0, .int .u8 0, .int .u8 0, .int .u8 0, .int .u8 0, .int .u8 0, .int .u8 0, .int .u8 0, .int .u8 0, .int .u8 0, .int .u8 0, .int .u8 0, .int .u8 0, .int .u8 0, .int .u8 0, .int .u8 0, .int .u8 0, .int .u8 0, .int .u8 0, .int .u8 0, .int .u8 0, .int .u8 0, .int .u8 0, .int .u8 0, .int .u8 0, .string (ByteArray.mk #[]), .int .i64 8, .slice sa 1 sc, .slice (some ⟨w4.heap.size, 0, none⟩) 1 1, .slice none 0 0, .int .i64 0, .int .i64 0]) from more_of (below_setRow hu3.1.below (by omega) _))
  clear hu1 hu3 HU2
  generalize ((w4.alloc (.cells #[.int .u8 4, .int .i64 0, .int .i64 0, .int .i64 0] 53)).alloc (.cells (#[.int .u8 0, .int .u8 0, .int .u8 0, .int .u8 0, .int .u8 0, .int .u8 0, .int .u8 0, .int .u8 0, .int .u8 0, .int .u8 0, .int .u8 0, .int .u8 0, .int .u8 0, .int .u8 0, .int .u8 0, .int .u8 0, .int .u8 0, .int .u8 0, .int .u8 0, .int .u8 0, .int .u8 0, .int .u8 0, .int .u8 0, .int .u8 0, .int .u8 0, .int .u8 0, .int .u8 0, .int .u8 0, .int .u8 0, .int .u8 0, .int .u8 0, .int .u8 0, .string (ByteArray.mk #[]), .int .i64 0, .slice none 0 0, .slice none 0 0, .slice none 0 0, .int .i64 0, .int .i64 0] : Array Value) 35)).setRow (w4.heap.size + 1) (#[.int .u8 0, .int .u8 0, .int .u8 0, .int .u8 0, .int .u8 0, .int .u8 0, .int .u8 0, .int .u8 0, .int .u8 0, .int .u8 0, .int .u8 0, .int .u8 0, .int .u8 0, .int .u8 0, .int .u8 0, .int .u8 0, .int .u8 0, .int .u8 0, .int .u8 0, .int .u8 0, .int .u8 0, .int .u8 0, .int .u8 0, .int .u8 0, .int .u8 0, .int .u8 0, .int .u8 0, .int .u8 0, .int .u8 0, .int .u8 0, .int .u8 0, .int .u8 0, .string (ByteArray.mk #[]), .int .i64 8, .slice sa 1 sc, .slice (some ⟨w4.heap.size, 0, none⟩) 1 1, .slice none 0 0, .int .i64 0, .int .i64 0] : Array Value) = w5 at *
  simp only [Act.put]
  have HSU := Lib.hid (show SB < w4.heap.size from blk_lt HB4.out)
  generalize w4.heap.size = UB at *
  obtain ⟨CB, HCB⟩ : ∃ CB, Hid (CB = UB + 1) := ⟨_, Lib.hid rfl⟩
  rw [← HCB.out] at HC5 ⊢
  have HAS := Lib.hid (show ((#[.int .u8 0, .int .u8 0, .int .u8 0, .int .u8 0, .int .u8 0, .int .u8 0, .int .u8 0, .int .u8 0, .int .u8 0, .int .u8 0, .int .u8 0, .int .u8 0, .int .u8 0, .int .u8 0, .int .u8 0, .int .u8 0, .int .u8 0, .int .u8 0, .int .u8 0, .int .u8 0, .int .u8 0, .int .u8 0, .int .u8 0, .int .u8 0, .int .u8 0, .int .u8 0, .int .u8 0, .int .u8 0, .int .u8 0, .int .u8 0, .int .u8 0, .int .u8 0, .string (ByteArray.mk #[]), .int .i64 8, .slice sa 1 sc, .slice (some ⟨UB, 0, none⟩) 1 1, .slice none 0 0, .int .i64 0, .int .i64 0] : Array Value) : Array Value).size = 39 from rfl)
  have HA1 := Lib.hid (show ((#[.int .u8 0, .int .u8 0, .int .u8 0, .int .u8 0, .int .u8 0, .int .u8 0, .int .u8 0, .int .u8 0, .int .u8 0, .int .u8 0, .int .u8 0, .int .u8 0, .int .u8 0, .int .u8 0, .int .u8 0, .int .u8 0, .int .u8 0, .int .u8 0, .int .u8 0, .int .u8 0, .int .u8 0, .int .u8 0, .int .u8 0, .int .u8 0, .int .u8 0, .int .u8 0, .int .u8 0, .int .u8 0, .int .u8 0, .int .u8 0, .int .u8 0, .int .u8 0, .string (ByteArray.mk #[]), .int .i64 8, .slice sa 1 sc, .slice (some ⟨UB, 0, none⟩) 1 1, .slice none 0 0, .int .i64 0, .int .i64 0] : Array Value) : Array Value).all (·.oneCell') = true from by kernel_rfl)
  have HA32 := Lib.hid (show ((#[.int .u8 0, .int .u8 0, .int .u8 0, .int .u8 0, .int .u8 0, .int .u8 0, .int .u8 0, .int .u8 0, .int .u8 0, .int .u8 0, .int .u8 0, .int .u8 0, .int .u8 0, .int .u8 0, .int .u8 0, .int .u8 0, .int .u8 0, .int .u8 0, .int .u8 0, .int .u8 0, .int .u8 0, .int .u8 0, .int .u8 0, .int .u8 0, .int .u8 0, .int .u8 0, .int .u8 0, .int .u8 0, .int .u8 0, .int .u8 0, .int .u8 0, .int .u8 0, .string (ByteArray.mk #[]), .int .i64 8, .slice sa 1 sc, .slice (some ⟨UB, 0, none⟩) 1 1, .slice none 0 0, .int .i64 0, .int .i64 0] : Array Value) : Array Value)[32]? = some (.string (ByteArray.mk #[])) from rfl)
  have HA33 := Lib.hid (show ((#[.int .u8 0, .int .u8 0, .int .u8 0, .int .u8 0, .int .u8 0, .int .u8 0, .int .u8 0, .int .u8 0, .int .u8 0, .int .u8 0, .int .u8 0, .int .u8 0, .int .u8 0, .int .u8 0, .int .u8 0, .int .u8 0, .int .u8 0, .int .u8 0, .int .u8 0, .int .u8 0, .int .u8 0, .int .u8 0, .int .u8 0, .int .u8 0, .int .u8 0, .int .u8 0, .int .u8 0, .int .u8 0, .int .u8 0, .int .u8 0, .int .u8 0, .int .u8 0, .string (ByteArray.mk #[]), .int .i64 8, .slice sa 1 sc, .slice (some ⟨UB, 0, none⟩) 1 1, .slice none 0 0, .int .i64 0, .int .i64 0] : Array Value) : Array Value)[33]? = some (.int .i64 8) from rfl)
  have HA34 := Lib.hid (show ((#[.int .u8 0, .int .u8 0, .int .u8 0, .int .u8 0, .int .u8 0, .int .u8 0, .int .u8 0, .int .u8 0, .int .u8 0, .int .u8 0, .int .u8 0, .int .u8 0, .int .u8 0, .int .u8 0, .int .u8 0, .int .u8 0, .int .u8 0, .int .u8 0, .int .u8 0, .int .u8 0, .int .u8 0, .int .u8 0, .int .u8 0, .int .u8 0, .int .u8 0, .int .u8 0, .int .u8 0, .int .u8 0, .int .u8 0, .int .u8 0, .int .u8 0, .int .u8 0, .string (ByteArray.mk #[]), .int .i64 8, .slice sa 1 sc, .slice (some ⟨UB, 0, none⟩) 1 1, .slice none 0 0, .int .i64 0, .int .i64 0] : Array Value) : Array Value)[34]? = some (.slice sa 1 sc) from rfl)
  have HA35 := Lib.hid (show ((#[.int .u8 0, .int .u8 0, .int .u8 0, .int .u8 0, .int .u8 0, .int .u8 0, .int .u8 0, .int .u8 0, .int .u8 0, .int .u8 0, .int .u8 0, .int .u8 0, .int .u8 0, .int .u8 0, .int .u8 0, .int .u8 0, .int .u8 0, .int .u8 0, .int .u8 0, .int .u8 0, .int .u8 0, .int .u8 0, .int .u8 0, .int .u8 0, .int .u8 0, .int .u8 0, .int .u8 0, .int .u8 0, .int .u8 0, .int .u8 0, .int .u8 0, .int .u8 0, .string (ByteArray.mk #[]), .int .i64 8, .slice sa 1 sc, .slice (some ⟨UB, 0, none⟩) 1 1, .slice none 0 0, .int .i64 0, .int .i64 0] : Array Value) : Array Value)[35]? = some (.slice (some ⟨UB, 0, none⟩) 1 1) from rfl)
  have HA36 := Lib.hid (show ((#[.int .u8 0, .int .u8 0, .int .u8 0, .int .u8 0, .int .u8 0, .int .u8 0, .int .u8 0, .int .u8 0, .int .u8 0, .int .u8 0, .int .u8 0, .int .u8 0, .int .u8 0, .int .u8 0, .int .u8 0, .int .u8 0, .int .u8 0, .int .u8 0, .int .u8 0, .int .u8 0, .int .u8 0, .int .u8 0, .int .u8 0, .int .u8 0, .int .u8 0, .int .u8 0, .int .u8 0, .int .u8 0, .int .u8 0, .int .u8 0, .int .u8 0, .int .u8 0, .string (ByteArray.mk #[]), .int .i64 8, .slice sa 1 sc, .slice (some ⟨UB, 0, none⟩) 1 1, .slice none 0 0, .int .i64 0, .int .i64 0] : Array Value) : Array Value)[36]? = some (.slice none 0 0) from rfl)
  have HA37 := Lib.hid (show ((#[.int .u8 0, .int .u8 0, .int .u8 0, .int .u8 0, .int .u8 0, .int .u8 0, .int .u8 0, .int .u8 0, .int .u8 0, .int .u8 0, .int .u8 0, .int .u8 0, .int .u8 0, .int .u8 0, .int .u8 0, .int .u8 0, .int .u8 0, .int .u8 0, .int .u8 0, .int .u8 0, .int .u8 0, .int .u8 0, .int .u8 0, .int .u8 0, .int .u8 0, .int .u8 0, .int .u8 0, .int .u8 0, .int .u8 0, .int .u8 0, .int .u8 0, .int .u8 0, .string (ByteArray.mk #[]), .int .i64 8, .slice sa 1 sc, .slice (some ⟨UB, 0, none⟩) 1 1, .slice none 0 0, .int .i64 0, .int .i64 0] : Array Value) : Array Value)[37]? = some (.int .i64 0) from rfl)
  have HA38 := Lib.hid (show ((#[.int .u8 0, .int .u8 0, .int .u8 0, .int .u8 0, .int .u8 0, .int .u8 0, .int .u8 0, .int .u8 0, .int .u8 0, .int .u8 0, .int .u8 0, .int .u8 0, .int .u8 0, .int .u8 0, .int .u8 0, .int .u8 0, .int .u8 0, .int .u8 0, .int .u8 0, .int .u8 0, .int .u8 0, .int .u8 0, .int .u8 0, .int .u8 0, .int .u8 0, .int .u8 0, .int .u8 0, .int .u8 0, .int .u8 0, .int .u8 0, .int .u8 0, .int .u8 0, .string (ByteArray.mk #[]), .int .i64 8, .slice sa 1 sc, .slice (some ⟨UB, 0, none⟩) 1 1, .slice none 0 0, .int .i64 0, .int .i64 0] : Array Value) : Array Value)[38]? = some (.int .i64 0) from rfl)
  have HAF := Lib.hid (show ∀ (j : Nat) (n : Int), (List.replicate 32 (0 : Int))[j]? = some n → ((#[.int .u8 0, .int .u8 0, .int .u8 0, .int .u8 0, .int .u8 0, .int .u8 0, .int .u8 0, .int .u8 0, .int .u8 0, .int .u8 0, .int .u8 0, .int .u8 0, .int .u8 0, .int .u8 0, .int .u8 0, .int .u8 0, .int .u8 0, .int .u8 0, .int .u8 0, .int .u8 0, .int .u8 0, .int .u8 0, .int .u8 0, .int .u8 0, .int .u8 0, .int .u8 0, .int .u8 0, .int .u8 0, .int .u8 0, .int .u8 0, .int .u8 0, .int .u8 0, .string (ByteArray.mk #[]), .int .i64 8, .slice sa 1 sc, .slice (some ⟨UB, 0, none⟩) 1 1, .slice none 0 0, .int .i64 0, .int .i64 0] : Array Value) : Array Value)[j]? = some (.int .u8 n) from fun j n h => by
      rw [List.getElem?_replicate] at h
      split at h
      · rename_i hj
        have e : ((#[.int .u8 0, .int .u8 0, .int .u8 0, .int .u8 0, .int .u8 0, .int .u8 0, .int .u8 0, .int .u8 0, .int .u8 0, .int .u8 0, .int .u8 0, .int .u8 0, .int .u8 0, .int .u8 0, .int .u8 0, .int .u8 0, .int .u8 0, .int .u8 0, .int .u8 0, .int .u8 0, .int .u8 0, .int .u8 0, .int .u8 0, .int .u8 0, .int .u8 0, .int .u8 0, .int .u8 0, .int .u8 0, .int .u8 0, .int .u8 0, .int .u8 0, .int .u8 0, .string (ByteArray.mk #[]), .int .i64 8, .slice sa 1 sc, .slice (some ⟨UB, 0, none⟩) 1 1, .slice none 0 0, .int .i64 0, .int .i64 0] : Array Value) : Array Value) = (List.replicate 32 (Value.int .u8 0) ++ ([.string (ByteArray.mk #[]), .int .i64 8, .slice sa 1 sc, .slice (some ⟨UB, 0, none⟩) 1 1, .slice none 0 0, .int .i64 0, .int .i64 0] : List Value)).toArray := by kernel_rfl
        rw [e, List.getElem?_toArray, List.getElem?_append_left (by simpa using hj), List.getElem?_replicate, if_pos hj]
        cases h; rfl
      · cases h)
  generalize (#[.int .u8 0, .int .u8 0, .int .u8 0, .int .u8 0, .int .u8 0, .int .u8 0, .int .u8 0, .int .u8 0, .int .u8 0, .int .u8 0, .int .u8 0, .int .u8 0, .int .u8 0, .int .u8 0, .int .u8 0, .int .u8 0, .int .u8 0, .int .u8 0, .int .u8 0, .int .u8 0, .int .u8 0, .int .u8 0, .int .u8 0, .int .u8 0, .int .u8 0, .int .u8 0, .int .u8 0, .int .u8 0, .int .u8 0, .int .u8 0, .int .u8 0, .int .u8 0, .string (ByteArray.mk #[]), .int .i64 8, .slice sa 1 sc, .slice (some ⟨UB, 0, none⟩) 1 1, .slice none 0 0, .int .i64 0, .int .i64 0] : Array Value) = A at *
  obtain ⟨M, HMM⟩ : ∃ M, Hid (M = w5.heap.size) := ⟨_, Lib.hid rfl⟩
  clear k0 k1 k2 k3 hbk s0 hbs
  go_cut [5, 6, 7] (fun p q r wx => ∃ X Y Z : Nat, p = .pointer (some ⟨X, 0, none⟩) ∧ q = .pointer (some ⟨Y, 0, none⟩) ∧ r = .pointer (some ⟨Z, 0, none⟩) ∧ Hid (M ≤ X ∧ M ≤ Y ∧ M ≤ Z ∧ X ≠ Y ∧ Y ≠ Z ∧ X ≠ Z) ∧ Hid (wx.heap[X]? = some (.cells A 35) ∧ wx.heap[Y]? = some (.cells A 35) ∧ wx.heap[Z]? = some (.cells A 35)) ∧ Hid (More w5 wx))
  case first =>
    have HK := Lib.hid (show ∀ W, More w5 W → W.heap[CB]? = some (.cells A 35) from fun W h => (h.block (blk_lt HC5.out)).trans HC5.out)
    have HCM := Lib.hid (show CB < M from by rw [HMM.out]; exact blk_lt HC5.out)
    refine wp_region_held_drew (S := fun W => W.heap[CB]? = some (.cells A 35)) (by kernel_rfl) (HK.out _ (more_drew w5)) (fun hHeld => ?_)
    refine wpAnyH_take (i := 0) (v := .agg A) (by simp only [List.getElem?_toArray, List.getElem?_cons_zero]; exact rfl) (by kernel_rfl) (by kernel_rfl) (by kernel_rfl) (by exact fun _ _ _ h => h) (yieldsIf_load98 (by kernel_rfl) _ rfl CB rfl A HAS.out (fun _ h => h)) hHeld ?_
    (try simp only [Act.put, List.setIfInBounds_toArray, List.set_cons_zero, List.set_cons_succ])
    refine wpAnyH_take (i := 1) (v := .agg A) (by simp only [List.getElem?_toArray, List.getElem?_cons_succ, List.getElem?_cons_zero]; exact rfl) (by kernel_rfl) (by kernel_rfl) (by kernel_rfl) (by exact fun _ _ _ h => h) (yieldsIf_load98 (by kernel_rfl) _ rfl CB rfl A HAS.out (fun _ h => h)) hHeld ?_
    (try simp only [Act.put, List.setIfInBounds_toArray, List.set_cons_zero, List.set_cons_succ])
    refine wpAnyH_take (i := 2) (v := .agg A) (by simp only [List.getElem?_toArray, List.getElem?_cons_succ, List.getElem?_cons_zero]; exact rfl) (by kernel_rfl) (by kernel_rfl) (by kernel_rfl) (by exact fun _ _ _ h => h) (yieldsIf_load98 (by kernel_rfl) _ rfl CB rfl A HAS.out (fun _ h => h)) hHeld ?_
    (try simp only [Act.put, List.setIfInBounds_toArray, List.set_cons_zero, List.set_cons_succ])
    have HMA1 := Lib.hid (show More w5 ((w5.alloc (.cells (#[.int .u8 0, .int .u8 0, .int .u8 0, .int .u8 0, .int .u8 0, .int .u8 0, .int .u8 0, .int .u8 0, .int .u8 0, .int .u8 0, .int .u8 0, .int .u8 0, .int .u8 0, .int .u8 0, .int .u8 0, .int .u8 0, .int .u8 0, .int .u8 0, .int .u8 0, .int .u8 0, .int .u8 0, .int .u8 0, .int .u8 0, .int .u8 0, .int .u8 0, .int .u8 0, .int .u8 0, .int .u8 0, .int .u8 0, .int .u8 0, .int .u8 0, .int .u8 0, .string (ByteArray.mk #[]), .int .i64 0, .slice none 0 0, .slice none 0 0, .slice none 0 0, .int .i64 0, .int .i64 0] : Array Value) 35)).drew) from more_trans (more_alloc _ _) (more_drew _))
    have HMA2 := Lib.hid (show More w5 (((w5.alloc (.cells (#[.int .u8 0, .int .u8 0, .int .u8 0, .int .u8 0, .int .u8 0, .int .u8 0, .int .u8 0, .int .u8 0, .int .u8 0, .int .u8 0, .int .u8 0, .int .u8 0, .int .u8 0, .int .u8 0, .int .u8 0, .int .u8 0, .int .u8 0, .int .u8 0, .int .u8 0, .int .u8 0, .int .u8 0, .int .u8 0, .int .u8 0, .int .u8 0, .int .u8 0, .int .u8 0, .int .u8 0, .int .u8 0, .int .u8 0, .int .u8 0, .int .u8 0, .int .u8 0, .string (ByteArray.mk #[]), .int .i64 0, .slice none 0 0, .slice none 0 0, .slice none 0 0, .int .i64 0, .int .i64 0] : Array Value) 35)).alloc (.cells (#[.int .u8 0, .int .u8 0, .int .u8 0, .int .u8 0, .int .u8 0, .int .u8 0, .int .u8 0, .int .u8 0, .int .u8 0, .int .u8 0, .int .u8 0, .int .u8 0, .int .u8 0, .int .u8 0, .int .u8 0, .int .u8 0, .int .u8 0, .int .u8 0, .int .u8 0, .int .u8 0, .int .u8 0, .int .u8 0, .int .u8 0, .int .u8 0, .int .u8 0, .int .u8 0, .int .u8 0, .int .u8 0, .int .u8 0, .int .u8 0, .int .u8 0, .int .u8 0, .string (ByteArray.mk #[]), .int .i64 0, .slice none 0 0, .slice none 0 0, .slice none 0 0, .int .i64 0, .int .i64 0] : Array Value) 35)).drew) from more_trans (more_alloc _ _) (more_trans (more_alloc _ _) (more_drew _)))
    have HMA3 := Lib.hid (show More w5 ((((w5.alloc (.cells (#[.int .u8 0, .int .u8 0, .int .u8 0, .int .u8 0, .int .u8 0, .int .u8 0, .int .u8 0, .int .u8 0, .int .u8 0, .int .u8 0, .int .u8 0, .int .u8 0, .int .u8 0, .int .u8 0, .int .u8 0, .int .u8 0, .int .u8 0, .int .u8 0, .int .u8 0, .int .u8 0, .int .u8 0, .int .u8 0, .int .u8 0, .int .u8 0, .int .u8 0, .int .u8 0, .int .u8 0, .int .u8 0, .int .u8 0, .int .u8 0, .int .u8 0, .int .u8 0, .string (ByteArray.mk #[]), .int .i64 0, .slice none 0 0, .slice none 0 0, .slice none 0 0, .int .i64 0, .int .i64 0] : Array Value) 35)).alloc (.cells (#[.int .u8 0, .int .u8 0, .int .u8 0, .int .u8 0, .int .u8 0, .int .u8 0, .int .u8 0, .int .u8 0, .int .u8 0, .int .u8 0, .int .u8 0, .int .u8 0, .int .u8 0, .int .u8 0, .int .u8 0, .int .u8 0, .int .u8 0, .int .u8 0, .int .u8 0, .int .u8 0, .int .u8 0, .int .u8 0, .int .u8 0, .int .u8 0, .int .u8 0, .int .u8 0, .int .u8 0, .int .u8 0, .int .u8 0, .int .u8 0, .int .u8 0, .int .u8 0, .string (ByteArray.mk #[]), .int .i64 0, .slice none 0 0, .slice none 0 0, .slice none 0 0, .int .i64 0, .int .i64 0] : Array Value) 35)).alloc (.cells (#[.int .u8 0, .int .u8 0, .int .u8 0, .int .u8 0, .int .u8 0, .int .u8 0, .int .u8 0, .int .u8 0, .int .u8 0, .int .u8 0, .int .u8 0, .int .u8 0, .int .u8 0, .int .u8 0, .int .u8 0, .int .u8 0, .int .u8 0, .int .u8 0, .int .u8 0, .int .u8 0, .int .u8 0, .int .u8 0, .int .u8 0, .int .u8 0, .int .u8 0, .int .u8 0, .int .u8 0, .int .u8 0, .int .u8 0, .int .u8 0, .int .u8 0, .int .u8 0, .string (ByteArray.mk #[]), .int .i64 0, .slice none 0 0, .slice none 0 0, .slice none 0 0, .int .i64 0, .int .i64 0] : Array Value) 35)).drew) from more_trans (more_alloc _ _) (more_trans (more_alloc _ _) (more_trans (more_alloc _ _) (more_drew _))))
    have HZ0 := Lib.hid (show ((((w5.alloc (.cells (#[.int .u8 0, .int .u8 0, .int .u8 0, .int .u8 0, .int .u8 0, .int .u8 0, .int .u8 0, .int .u8 0, .int .u8 0, .int .u8 0, .int .u8 0, .int .u8 0, .int .u8 0, .int .u8 0, .int .u8 0, .int .u8 0, .int .u8 0, .int .u8 0, .int .u8 0, .int .u8 0, .int .u8 0, .int .u8 0, .int .u8 0, .int .u8 0, .int .u8 0, .int .u8 0, .int .u8 0, .int .u8 0, .int .u8 0, .int .u8 0, .int .u8 0, .int .u8 0, .string (ByteArray.mk #[]), .int .i64 0, .slice none 0 0, .slice none 0 0, .slice none 0 0, .int .i64 0, .int .i64 0] : Array Value) 35)).alloc (.cells (#[.int .u8 0, .int .u8 0, .int .u8 0, .int .u8 0, .int .u8 0, .int .u8 0, .int .u8 0, .int .u8 0, .int .u8 0, .int .u8 0, .int .u8 0, .int .u8 0, .int .u8 0, .int .u8 0, .int .u8 0, .int .u8 0, .int .u8 0, .int .u8 0, .int .u8 0, .int .u8 0, .int .u8 0, .int .u8 0, .int .u8 0, .int .u8 0, .int .u8 0, .int .u8 0, .int .u8 0, .int .u8 0, .int .u8 0, .int .u8 0, .int .u8 0, .int .u8 0, .string (ByteArray.mk #[]), .int .i64 0, .slice none 0 0, .slice none 0 0, .slice none 0 0, .int .i64 0, .int .i64 0] : Array Value) 35)).alloc (.cells (#[.int .u8 0, .int .u8 0, .int .u8 0, .int .u8 0, .int .u8 0, .int .u8 0, .int .u8 0, .int .u8 0, .int .u8 0, .int .u8 0, .int .u8 0, .int .u8 0, .int .u8 0, .int .u8 0, .int .u8 0, .int .u8 0, .int .u8 0, .int .u8 0, .int .u8 0, .int .u8 0, .int .u8 0, .int .u8 0, .int .u8 0, .int .u8 0, .int .u8 0, .int .u8 0, .int .u8 0, .int .u8 0, .int .u8 0, .int .u8 0, .int .u8 0, .int .u8 0, .string (ByteArray.mk #[]), .int .i64 0, .slice none 0 0, .slice none 0 0, .slice none 0 0, .int .i64 0, .int .i64 0] : Array Value) 35)).drew).heap[w5.heap.size]? = some (.cells (#[.int .u8 0, .int .u8 0, .int .u8 0, .int .u8 0, .int .u8 0, .int .u8 0, .int .u8 0, .int .u8 0, .int .u8 0, .int .u8 0, .int .u8 0, .int .u8 0, .int .u8 0, .int .u8 0, .int .u8 0, .int .u8 0, .int .u8 0, .int .u8 0, .int .u8 0, .int .u8 0, .int .u8 0, .int .u8 0, .int .u8 0, .int .u8 0, .int .u8 0, .int .u8 0, .int .u8 0, .int .u8 0, .int .u8 0, .int .u8 0, .int .u8 0, .int .u8 0, .string (ByteArray.mk #[]), .int .i64 0, .slice none 0 0, .slice none 0 0, .slice none 0 0, .int .i64 0, .int .i64 0] : Array Value) 35) from (Below.heap_alloc _ _ _ (by rw [World.size_alloc, World.size_alloc]; omega)).trans ((Below.heap_alloc _ _ _ (by rw [World.size_alloc]; omega)).trans (alloc_last w5 _)))
    have HZ1 := Lib.hid (show ((((w5.alloc (.cells (#[.int .u8 0, .int .u8 0, .int .u8 0, .int .u8 0, .int .u8 0, .int .u8 0, .int .u8 0, .int .u8 0, .int .u8 0, .int .u8 0, .int .u8 0, .int .u8 0, .int .u8 0, .int .u8 0, .int .u8 0, .int .u8 0, .int .u8 0, .int .u8 0, .int .u8 0, .int .u8 0, .int .u8 0, .int .u8 0, .int .u8 0, .int .u8 0, .int .u8 0, .int .u8 0, .int .u8 0, .int .u8 0, .int .u8 0, .int .u8 0, .int .u8 0, .int .u8 0, .string (ByteArray.mk #[]), .int .i64 0, .slice none 0 0, .slice none 0 0, .slice none 0 0, .int .i64 0, .int .i64 0] : Array Value) 35)).alloc (.cells (#[.int .u8 0, .int .u8 0, .int .u8 0, .int .u8 0, .int .u8 0, .int .u8 0, .int .u8 0, .int .u8 0, .int .u8 0, .int .u8 0, .int .u8 0, .int .u8 0, .int .u8 0, .int .u8 0, .int .u8 0, .int .u8 0, .int .u8 0, .int .u8 0, .int .u8 0, .int .u8 0, .int .u8 0, .int .u8 0, .int .u8 0, .int .u8 0, .int .u8 0, .int .u8 0, .int .u8 0, .int .u8 0, .int .u8 0, .int .u8 0, .int .u8 0, .int .u8 0, .string (ByteArray.mk #[]), .int .i64 0, .slice none 0 0, .slice none 0 0, .slice none 0 0, .int .i64 0, .int .i64 0] : Array Value) 35)).alloc (.cells (#[.int .u8 0, .int .u8 0, .int .u8 0, .int .u8 0, .int .u8 0, .int .u8 0, .int .u8 0, .int .u8 0, .int .u8 0, .int .u8 0, .int .u8 0, .int .u8 0, .int .u8 0, .int .u8 0, .int .u8 0, .int .u8 0, .int .u8 0, .int .u8 0, .int .u8 0, .int .u8 0, .int .u8 0, .int .u8 0, .int .u8 0, .int .u8 0, .int .u8 0, .int .u8 0, .int .u8 0, .int .u8 0, .int .u8 0, .int .u8 0, .int .u8 0, .int .u8 0, .string (ByteArray.mk #[]), .int .i64 0, .slice none 0 0, .slice none 0 0, .slice none 0 0, .int .i64 0, .int .i64 0] : Array Value) 35)).drew).heap[w5.heap.size + 1]? = some (.cells (#[.int .u8 0, .int .u8 0, .int .u8 0, .int .u8 0, .int .u8 0, .int .u8 0, .int .u8 0, .int .u8 0, .int .u8 0, .int .u8 0, .int .u8 0, .int .u8 0, .int .u8 0, .int .u8 0, .int .u8 0, .int .u8 0, .int .u8 0, .int .u8 0, .int .u8 0, .int .u8 0, .int .u8 0, .int .u8 0, .int .u8 0, .int .u8 0, .int .u8 0, .int .u8 0, .int .u8 0, .int .u8 0, .int .u8 0, .int .u8 0, .int .u8 0, .int .u8 0, .string (ByteArray.mk #[]), .int .i64 0, .slice none 0 0, .slice none 0 0, .slice none 0 0, .int .i64 0, .int .i64 0] : Array Value) 35) from (Below.heap_alloc _ _ _ (by rw [World.size_alloc, World.size_alloc]; omega)).trans (by have h1 := alloc_last (w5.alloc (.cells (#[.int .u8 0, .int .u8 0, .int .u8 0, .int .u8 0, .int .u8 0, .int .u8 0, .int .u8 0, .int .u8 0, .int .u8 0, .int .u8 0, .int .u8 0, .int .u8 0, .int .u8 0, .int .u8 0, .int .u8 0, .int .u8 0, .int .u8 0, .int .u8 0, .int .u8 0, .int .u8 0, .int .u8 0, .int .u8 0, .int .u8 0, .int .u8 0, .int .u8 0, .int .u8 0, .int .u8 0, .int .u8 0, .int .u8 0, .int .u8 0, .int .u8 0, .int .u8 0, .string (ByteArray.mk #[]), .int .i64 0, .slice none 0 0, .slice none 0 0, .slice none 0 0, .int .i64 0, .int .i64 0] : Array Value) 35)) (.cells (#[.int .u8 0, .int .u8 0, .int .u8 0, .int .u8 0, .int .u8 0, .int .u8 0, .int .u8 0, .int .u8 0, .int .u8 0, .int .u8 0, .int .u8 0, .int .u8 0, .int .u8 0, .int .u8 0, .int .u8 0, .int .u8 0, .int .u8 0, .int .u8 0, .int .u8 0, .int .u8 0, .int .u8 0, .int .u8 0, .int .u8 0, .int .u8 0, .int .u8 0, .int .u8 0, .int .u8 0, .int .u8 0, .int .u8 0, .int .u8 0, .int .u8 0, .int .u8 0, .string (ByteArray.mk #[]), .int .i64 0, .slice none 0 0, .slice none 0 0, .slice none 0 0, .int .i64 0, .int .i64 0] : Array Value) 35); rw [World.size_alloc] at h1; exact h1))
    have HZ2 := Lib.hid (show ((((w5.alloc (.cells (#[.int .u8 0, .int .u8 0, .int .u8 0, .int .u8 0, .int .u8 0, .int .u8 0, .int .u8 0, .int .u8 0, .int .u8 0, .int .u8 0, .int .u8 0, .int .u8 0, .int .u8 0, .int .u8 0, .int .u8 0, .int .u8 0, .int .u8 0, .int .u8 0, .int .u8 0, .int .u8 0, .int .u8 0, .int .u8 0, .int .u8 0, .int .u8 0, .int .u8 0, .int .u8 0, .int .u8 0, .int .u8 0, .int .u8 0, .int .u8 0, .int .u8 0, .int .u8 0, .string (ByteArray.mk #[]), .int .i64 0, .slice none 0 0, .slice none 0 0, .slice none 0 0, .int .i64 0, .int .i64 0] : Array Value) 35)).alloc (.cells (#[.int .u8 0, .int .u8 0, .int .u8 0, .int .u8 0, .int .u8 0, .int .u8 0, .int .u8 0, .int .u8 0, .int .u8 0, .int .u8 0, .int .u8 0, .int .u8 0, .int .u8 0, .int .u8 0, .int .u8 0, .int .u8 0, .int .u8 0, .int .u8 0, .int .u8 0, .int .u8 0, .int .u8 0, .int .u8 0, .int .u8 0, .int .u8 0, .int .u8 0, .int .u8 0, .int .u8 0, .int .u8 0, .int .u8 0, .int .u8 0, .int .u8 0, .int .u8 0, .string (ByteArray.mk #[]), .int .i64 0, .slice none 0 0, .slice none 0 0, .slice none 0 0, .int .i64 0, .int .i64 0] : Array Value) 35)).alloc (.cells (#[.int .u8 0, .int .u8 0, .int .u8 0, .int .u8 0, .int .u8 0, .int .u8 0, .int .u8 0, .int .u8 0, .int .u8 0, .int .u8 0, .int .u8 0, .int .u8 0, .int .u8 0, .int .u8 0, .int .u8 0, .int .u8 0, .int .u8 0, .int .u8 0, .int .u8 0, .int .u8 0, .int .u8 0, .int .u8 0, .int .u8 0, .int .u8 0, .int .u8 0, .int .u8 0, .int .u8 0, .int .u8 0, .int .u8 0, .int .u8 0, .int .u8 0, .int .u8 0, .string (ByteArray.mk #[]), .int .i64 0, .slice none 0 0, .slice none 0 0, .slice none 0 0, .int .i64 0, .int .i64 0] : Array Value) 35)).drew).heap[w5.heap.size + 2]? = some (.cells (#[.int .u8 0, .int .u8 0, .int .u8 0, .int .u8 0, .int .u8 0, .int .u8 0, .int .u8 0, .int .u8 0, .int .u8 0, .int .u8 0, .int .u8 0, .int .u8 0, .int .u8 0, .int .u8 0, .int .u8 0, .int .u8 0, .int .u8 0, .int .u8 0, .int .u8 0, .int .u8 0, .int .u8 0, .int .u8 0, .int .u8 0, .int .u8 0, .int .u8 0, .int .u8 0, .int .u8 0, .int .u8 0, .int .u8 0, .int .u8 0, .int .u8 0, .int .u8 0, .string (ByteArray.mk #[]), .int .i64 0, .slice none 0 0, .slice none 0 0, .slice none 0 0, .int .i64 0, .int .i64 0] : Array Value) 35) from by have h1 := alloc_last ((w5.alloc (.cells (#[.int .u8 0, .int .u8 0, .int .u8 0, .int .u8 0, .int .u8 0, .int .u8 0, .int .u8 0, .int .u8 0, .int .u8 0, .int .u8 0, .int .u8 0, .int .u8 0, .int .u8 0, .int .u8 0, .int .u8 0, .int .u8 0, .int .u8 0, .int .u8 0, .int .u8 0, .int .u8 0, .int .u8 0, .int .u8 0, .int .u8 0, .int .u8 0, .int .u8 0, .int .u8 0, .int .u8 0, .int .u8 0, .int .u8 0, .int .u8 0, .int .u8 0, .int .u8 0, .string (ByteArray.mk #[]), .int .i64 0, .slice none 0 0, .slice none 0 0, .slice none 0 0, .int .i64 0, .int .i64 0] : Array Value) 35)).alloc (.cells (#[.int .u8 0, .int .u8 0, .int .u8 0, .int .u8 0, .int .u8 0, .int .u8 0, .int .u8 0, .int .u8 0, .int .u8 0, .int .u8 0, .int .u8 0, .int .u8 0, .int .u8 0, .int .u8 0, .int .u8 0, .int .u8 0, .int .u8 0, .int .u8 0, .int .u8 0, .int .u8 0, .int .u8 0, .int .u8 0, .int .u8 0, .int .u8 0, .int .u8 0, .int .u8 0, .int .u8 0, .int .u8 0, .int .u8 0, .int .u8 0, .int .u8 0, .int .u8 0, .string (ByteArray.mk #[]), .int .i64 0, .slice none 0 0, .slice none 0 0, .slice none 0 0, .int .i64 0, .int .i64 0] : Array Value) 35)) (.cells (#[.int .u8 0, .int .u8 0, .int .u8 0, .int .u8 0, .int .u8 0, .int .u8 0, .int .u8 0, .int .u8 0, .int .u8 0, .int .u8 0, .int .u8 0, .int .u8 0, .int .u8 0, .int .u8 0, .int .u8 0, .int .u8 0, .int .u8 0, .int .u8 0, .int .u8 0, .int .u8 0, .int .u8 0, .int .u8 0, .int .u8 0, .int .u8 0, .int .u8 0, .int .u8 0, .int .u8 0, .int .u8 0, .int .u8 0, .int .u8 0, .int .u8 0, .int .u8 0, .string (ByteArray.mk #[]), .int .i64 0, .slice none 0 0, .slice none 0 0, .slice none 0 0, .int .i64 0, .int .i64 0] : Array Value) 35); rw [World.size_alloc, World.size_alloc] at h1; exact h1)
    refine wpAnyH_ready (rs := [3, 4, 5]) (by kernel_rfl) (by simp) ?_
    refine AllReadyH.cons (by simp only [List.getElem?_toArray, List.getElem?_cons_succ, List.getElem?_cons_zero]; exact rfl) (fun K hK => ?_) (AllReadyH.cons (by simp only [List.getElem?_toArray, List.getElem?_cons_succ, List.getElem?_cons_zero]; exact rfl) (fun K hK => ?_) (AllReadyH.cons (by simp only [List.getElem?_toArray, List.getElem?_cons_succ, List.getElem?_cons_zero]; exact rfl) (fun K hK => ?_) (AllReadyH.nil)))
    · rw [if_pos (by kernel_rfl)]
      go_simp
      refine hK.out _ _ (HK.out _ HMA1.out) (fun hHeld => ?_)
      clear hK K
      (try simp only [Act.put, List.setIfInBounds_toArray, List.set_cons_zero, List.set_cons_succ])
      refine wpAnyH_ready (rs := [4, 5]) (by kernel_rfl) (by simp) ?_
      refine AllReadyH.cons (by simp only [List.getElem?_toArray, List.getElem?_cons_succ, List.getElem?_cons_zero]; exact rfl) (fun K hK => ?_) (AllReadyH.cons (by simp only [List.getElem?_toArray, List.getElem?_cons_succ, List.getElem?_cons_zero]; exact rfl) (fun K hK => ?_) (AllReadyH.nil))
      · rw [if_pos (by kernel_rfl)]
        go_simp
        refine hK.out _ _ (HK.out _ HMA2.out) (fun hHeld => ?_)
        clear hK K
        (try simp only [Act.put, List.setIfInBounds_toArray, List.set_cons_zero, List.set_cons_succ])
        refine wpAnyH_ready (rs := [5]) (by kernel_rfl) (by simp) ?_
        refine AllReadyH.cons (by simp only [List.getElem?_toArray, List.getElem?_cons_succ, List.getElem?_cons_zero]; exact rfl) (fun K hK => ?_) (AllReadyH.nil)
        · rw [if_pos (by kernel_rfl)]
          go_simp
          refine hK.out _ _ (HK.out _ HMA3.out) (fun hHeld => ?_)
          clear hK K
          (try simp only [Act.put, List.setIfInBounds_toArray, List.set_cons_zero, List.set_cons_succ])
          have HR3 := Lib.hid (rows3 (A := A) HZ0.out HZ1.out HZ2.out (show w5.heap.size ≠ w5.heap.size + 1 by omega) (show w5.heap.size + 1 ≠ w5.heap.size + 2 by omega) (show w5.heap.size ≠ w5.heap.size + 2 by omega))
          have HRS := Lib.hid (rows3_same (W := (((w5.alloc (.cells (#[.int .u8 0, .int .u8 0, .int .u8 0, .int .u8 0, .int .u8 0, .int .u8 0, .int .u8 0, .int .u8 0, .int .u8 0, .int .u8 0, .int .u8 0, .int .u8 0, .int .u8 0, .int .u8 0, .int .u8 0, .int .u8 0, .int .u8 0, .int .u8 0, .int .u8 0, .int .u8 0, .int .u8 0, .int .u8 0, .int .u8 0, .int .u8 0, .int .u8 0, .int .u8 0, .int .u8 0, .int .u8 0, .int .u8 0, .int .u8 0, .int .u8 0, .int .u8 0, .string (ByteArray.mk #[]), .int .i64 0, .slice none 0 0, .slice none 0 0, .slice none 0 0, .int .i64 0, .int .i64 0] : Array Value) 35)).alloc (.cells (#[.int .u8 0, .int .u8 0, .int .u8 0, .int .u8 0, .int .u8 0, .int .u8 0, .int .u8 0, .int .u8 0, .int .u8 0, .int .u8 0, .int .u8 0, .int .u8 0, .int .u8 0, .int .u8 0, .int .u8 0, .int .u8 0, .int .u8 0, .int .u8 0, .int .u8 0, .int .u8 0, .int .u8 0, .int .u8 0, .int .u8 0, .int .u8 0, .int .u8 0, .int .u8 0, .int .u8 0, .int .u8 0, .int .u8 0, .int .u8 0, .int .u8 0, .int .u8 0, .string (ByteArray.mk #[]), .int .i64 0, .slice none 0 0, .slice none 0 0, .slice none 0 0, .int .i64 0, .int .i64 0] : Array Value) 35)).alloc (.cells (#[.int .u8 0, .int .u8 0, .int .u8 0, .int .u8 0, .int .u8 0, .int .u8 0, .int .u8 0, .int .u8 0, .int .u8 0, .int .u8 0, .int .u8 0, .int .u8 0, .int .u8 0, .int .u8 0, .int .u8 0, .int .u8 0, .int .u8 0, .int .u8 0, .int .u8 0, .int .u8 0, .int .u8 0, .int .u8 0, .int .u8 0, .int .u8 0, .int .u8 0, .int .u8 0, .int .u8 0, .int .u8 0, .int .u8 0, .int .u8 0, .int .u8 0, .int .u8 0, .string (ByteArray.mk #[]), .int .i64 0, .slice none 0 0, .slice none 0 0, .slice none 0 0, .int .i64 0, .int .i64 0] : Array Value) 35)).drew) (A := A) (B := CB) (X := w5.heap.size) (Y := w5.heap.size + 1) (Z := w5.heap.size + 2) (by have := HCM.out; have := HMM.out; omega) (by have := HCM.out; have := HMM.out; omega) (by have := HCM.out; have := HMM.out; omega))
          have HK3 := HK.out _ HMA3.out
          refine wpAnyH_ready (rs := [6]) (by kernel_rfl) (by simp) ?_
          refine AllReadyH.cons (by simp only [List.getElem?_toArray, List.getElem?_cons_succ, List.getElem?_cons_zero]; exact rfl) (fun K hK => ?_) AllReadyH.nil
          rw [if_pos (by kernel_rfl)]
          refine wp_store_row 35 _ _ rfl (w5.heap.size) A rfl rfl 35 _ HZ0.out (by rw [HAS.out]; exact info98) (by rw [HAS.out]; rfl) HA1.out ?_
          refine hK.out _ _ (HRS.out.1.trans HK3) (fun hHeld => ?_)
          clear hK K
          (try simp only [Act.put])
          refine wpAnyH_ready (rs := [7]) (by kernel_rfl) (by simp) ?_
          refine AllReadyH.cons (by simp only [List.getElem?_toArray, List.getElem?_cons_succ, List.getElem?_cons_zero]; exact rfl) (fun K hK => ?_) AllReadyH.nil
          rw [if_pos (by kernel_rfl)]
          refine wp_store_row 35 _ _ rfl (w5.heap.size + 1) A rfl rfl 35 _ HR3.out.1 (by rw [HAS.out]; exact info98) (by rw [HAS.out]; rfl) HA1.out ?_
          refine hK.out _ _ (HRS.out.2.1.trans HK3) (fun hHeld => ?_)
          clear hK K
          (try simp only [Act.put])
          refine wpAnyH_ready (rs := [8]) (by kernel_rfl) (by simp) ?_
          refine AllReadyH.cons (by simp only [List.getElem?_toArray, List.getElem?_cons_succ, List.getElem?_cons_zero]; exact rfl) (fun K hK => ?_) AllReadyH.nil
          rw [if_pos (by kernel_rfl)]
          refine wp_store_row 35 _ _ rfl (w5.heap.size + 2) A rfl rfl 35 _ HR3.out.2.1 (by rw [HAS.out]; exact info98) (by rw [HAS.out]; rfl) HA1.out ?_
          refine hK.out _ _ (HRS.out.2.2.trans HK3) (fun hHeld => ?_)
          clear hK K
          (try simp only [Act.put])
          refine wpAnyH_done (by kernel_rfl) ?_ _
          go_wp2_with fail
          go_meet
          case rel => exact ⟨w5.heap.size, w5.heap.size + 1, w5.heap.size + 2, rfl, rfl, rfl, Lib.hid ⟨by rw [HMM.out]; omega, by rw [HMM.out]; omega, by rw [HMM.out]; omega, by omega, by omega, by omega⟩, Lib.hid HR3.out.2.2, Lib.hid (more_of (below_setRow (below_setRow (below_setRow HMA3.out.below (by omega) _) (by omega) _) (by omega) _))⟩
      · rw [if_pos (by kernel_rfl)]
        go_simp
        refine hK.out _ _ (HK.out _ HMA2.out) (fun hHeld => ?_)
        clear hK K
        (try simp only [Act.put, List.setIfInBounds_toArray, List.set_cons_zero, List.set_cons_succ])
        refine wpAnyH_ready (rs := [4]) (by kernel_rfl) (by simp) ?_
        refine AllReadyH.cons (by simp only [List.getElem?_toArray, List.getElem?_cons_succ, List.getElem?_cons_zero]; exact rfl) (fun K hK => ?_) (AllReadyH.nil)
        · rw [if_pos (by kernel_rfl)]
          go_simp
          refine hK.out _ _ (HK.out _ HMA3.out) (fun hHeld => ?_)
          clear hK K
          (try simp only [Act.put, List.setIfInBounds_toArray, List.set_cons_zero, List.set_cons_succ])
          have HR3 := Lib.hid (rows3 (A := A) HZ0.out HZ2.out HZ1.out (show w5.heap.size ≠ w5.heap.size + 2 by omega) (show w5.heap.size + 2 ≠ w5.heap.size + 1 by omega) (show w5.heap.size ≠ w5.heap.size + 1 by omega))
          have HRS := Lib.hid (rows3_same (W := (((w5.alloc (.cells (#[.int .u8 0, .int .u8 0, .int .u8 0, .int .u8 0, .int .u8 0, .int .u8 0, .int .u8 0, .int .u8 0, .int .u8 0, .int .u8 0, .int .u8 0, .int .u8 0, .int .u8 0, .int .u8 0, .int .u8 0, .int .u8 0, .int .u8 0, .int .u8 0, .int .u8 0, .int .u8 0, .int .u8 0, .int .u8 0, .int .u8 0, .int .u8 0, .int .u8 0, .int .u8 0, .int .u8 0, .int .u8 0, .int .u8 0, .int .u8 0, .int .u8 0, .int .u8 0, .string (ByteArray.mk #[]), .int .i64 0, .slice none 0 0, .slice none 0 0, .slice none 0 0, .int .i64 0, .int .i64 0] : Array Value) 35)).alloc (.cells (#[.int .u8 0, .int .u8 0, .int .u8 0, .int .u8 0, .int .u8 0, .int .u8 0, .int .u8 0, .int .u8 0, .int .u8 0, .int .u8 0, .int .u8 0, .int .u8 0, .int .u8 0, .int .u8 0, .int .u8 0, .int .u8 0, .int .u8 0, .int .u8 0, .int .u8 0, .int .u8 0, .int .u8 0, .int .u8 0, .int .u8 0, .int .u8 0, .int .u8 0, .int .u8 0, .int .u8 0, .int .u8 0, .int .u8 0, .int .u8 0, .int .u8 0, .int .u8 0, .string (ByteArray.mk #[]), .int .i64 0, .slice none 0 0, .slice none 0 0, .slice none 0 0, .int .i64 0, .int .i64 0] : Array Value) 35)).alloc (.cells (#[.int .u8 0, .int .u8 0, .int .u8 0, .int .u8 0, .int .u8 0, .int .u8 0, .int .u8 0, .int .u8 0, .int .u8 0, .int .u8 0, .int .u8 0, .int .u8 0, .int .u8 0, .int .u8 0, .int .u8 0, .int .u8 0, .int .u8 0, .int .u8 0, .int .u8 0, .int .u8 0, .int .u8 0, .int .u8 0, .int .u8 0, .int .u8 0, .int .u8 0, .int .u8 0, .int .u8 0, .int .u8 0, .int .u8 0, .int .u8 0, .int .u8 0, .int .u8 0, .string (ByteArray.mk #[]), .int .i64 0, .slice none 0 0, .slice none 0 0, .slice none 0 0, .int .i64 0, .int .i64 0] : Array Value) 35)).drew) (A := A) (B := CB) (X := w5.heap.size) (Y := w5.heap.size + 2) (Z := w5.heap.size + 1) (by have := HCM.out; have := HMM.out; omega) (by have := HCM.out; have := HMM.out; omega) (by have := HCM.out; have := HMM.out; omega))
          have HK3 := HK.out _ HMA3.out
          refine wpAnyH_ready (rs := [6]) (by kernel_rfl) (by simp) ?_
          refine AllReadyH.cons (by simp only [List.getElem?_toArray, List.getElem?_cons_succ, List.getElem?_cons_zero]; exact rfl) (fun K hK => ?_) AllReadyH.nil
          rw [if_pos (by kernel_rfl)]
          refine wp_store_row 35 _ _ rfl (w5.heap.size) A rfl rfl 35 _ HZ0.out (by rw [HAS.out]; exact info98) (by rw [HAS.out]; rfl) HA1.out ?_
          refine hK.out _ _ (HRS.out.1.trans HK3) (fun hHeld => ?_)
          clear hK K
          (try simp only [Act.put])
          refine wpAnyH_ready (rs := [7]) (by kernel_rfl) (by simp) ?_
          refine AllReadyH.cons (by simp only [List.getElem?_toArray, List.getElem?_cons_succ, List.getElem?_cons_zero]; exact rfl) (fun K hK => ?_) AllReadyH.nil
          rw [if_pos (by kernel_rfl)]
          refine wp_store_row 35 _ _ rfl (w5.heap.size + 2) A rfl rfl 35 _ HR3.out.1 (by rw [HAS.out]; exact info98) (by rw [HAS.out]; rfl) HA1.out ?_
          refine hK.out _ _ (HRS.out.2.1.trans HK3) (fun hHeld => ?_)
          clear hK K
          (try simp only [Act.put])
          refine wpAnyH_ready (rs := [8]) (by kernel_rfl) (by simp) ?_
          refine AllReadyH.cons (by simp only [List.getElem?_toArray, List.getElem?_cons_succ, List.getElem?_cons_zero]; exact rfl) (fun K hK => ?_) AllReadyH.nil
          rw [if_pos (by kernel_rfl)]
          refine wp_store_row 35 _ _ rfl (w5.heap.size + 1) A rfl rfl 35 _ HR3.out.2.1 (by rw [HAS.out]; exact info98) (by rw [HAS.out]; rfl) HA1.out ?_
          refine hK.out _ _ (HRS.out.2.2.trans HK3) (fun hHeld => ?_)
          clear hK K
          (try simp only [Act.put])
          refine wpAnyH_done (by kernel_rfl) ?_ _
          go_wp2_with fail
          go_meet
          case rel => exact ⟨w5.heap.size, w5.heap.size + 2, w5.heap.size + 1, rfl, rfl, rfl, Lib.hid ⟨by rw [HMM.out]; omega, by rw [HMM.out]; omega, by rw [HMM.out]; omega, by omega, by omega, by omega⟩, Lib.hid HR3.out.2.2, Lib.hid (more_of (below_setRow (below_setRow (below_setRow HMA3.out.below (by omega) _) (by omega) _) (by omega) _))⟩
    · rw [if_pos (by kernel_rfl)]
      go_simp
      refine hK.out _ _ (HK.out _ HMA1.out) (fun hHeld => ?_)
      clear hK K
      (try simp only [Act.put, List.setIfInBounds_toArray, List.set_cons_zero, List.set_cons_succ])
      refine wpAnyH_ready (rs := [3, 5]) (by kernel_rfl) (by simp) ?_
      refine AllReadyH.cons (by simp only [List.getElem?_toArray, List.getElem?_cons_succ, List.getElem?_cons_zero]; exact rfl) (fun K hK => ?_) (AllReadyH.cons (by simp only [List.getElem?_toArray, List.getElem?_cons_succ, List.getElem?_cons_zero]; exact rfl) (fun K hK => ?_) (AllReadyH.nil))
      · rw [if_pos (by kernel_rfl)]
        go_simp
        refine hK.out _ _ (HK.out _ HMA2.out) (fun hHeld => ?_)
        clear hK K
        (try simp only [Act.put, List.setIfInBounds_toArray, List.set_cons_zero, List.set_cons_succ])
        refine wpAnyH_ready (rs := [5]) (by kernel_rfl) (by simp) ?_
        refine AllReadyH.cons (by simp only [List.getElem?_toArray, List.getElem?_cons_succ, List.getElem?_cons_zero]; exact rfl) (fun K hK => ?_) (AllReadyH.nil)
        · rw [if_pos (by kernel_rfl)]
          go_simp
          refine hK.out _ _ (HK.out _ HMA3.out) (fun hHeld => ?_)
          clear hK K
          (try simp only [Act.put, List.setIfInBounds_toArray, List.set_cons_zero, List.set_cons_succ])
          have HR3 := Lib.hid (rows3 (A := A) HZ1.out HZ0.out HZ2.out (show w5.heap.size + 1 ≠ w5.heap.size by omega) (show w5.heap.size ≠ w5.heap.size + 2 by omega) (show w5.heap.size + 1 ≠ w5.heap.size + 2 by omega))
          have HRS := Lib.hid (rows3_same (W := (((w5.alloc (.cells (#[.int .u8 0, .int .u8 0, .int .u8 0, .int .u8 0, .int .u8 0, .int .u8 0, .int .u8 0, .int .u8 0, .int .u8 0, .int .u8 0, .int .u8 0, .int .u8 0, .int .u8 0, .int .u8 0, .int .u8 0, .int .u8 0, .int .u8 0, .int .u8 0, .int .u8 0, .int .u8 0, .int .u8 0, .int .u8 0, .int .u8 0, .int .u8 0, .int .u8 0, .int .u8 0, .int .u8 0, .int .u8 0, .int .u8 0, .int .u8 0, .int .u8 0, .int .u8 0, .string (ByteArray.mk #[]), .int .i64 0, .slice none 0 0, .slice none 0 0, .slice none 0 0, .int .i64 0, .int .i64 0] : Array Value) 35)).alloc (.cells (#[.int .u8 0, .int .u8 0, .int .u8 0, .int .u8 0, .int .u8 0, .int .u8 0, .int .u8 0, .int .u8 0, .int .u8 0, .int .u8 0, .int .u8 0, .int .u8 0, .int .u8 0, .int .u8 0, .int .u8 0, .int .u8 0, .int .u8 0, .int .u8 0, .int .u8 0, .int .u8 0, .int .u8 0, .int .u8 0, .int .u8 0, .int .u8 0, .int .u8 0, .int .u8 0, .int .u8 0, .int .u8 0, .int .u8 0, .int .u8 0, .int .u8 0, .int .u8 0, .string (ByteArray.mk #[]), .int .i64 0, .slice none 0 0, .slice none 0 0, .slice none 0 0, .int .i64 0, .int .i64 0] : Array Value) 35)).alloc (.cells (#[.int .u8 0, .int .u8 0, .int .u8 0, .int .u8 0, .int .u8 0, .int .u8 0, .int .u8 0, .int .u8 0, .int .u8 0, .int .u8 0, .int .u8 0, .int .u8 0, .int .u8 0, .int .u8 0, .int .u8 0, .int .u8 0, .int .u8 0, .int .u8 0, .int .u8 0, .int .u8 0, .int .u8 0, .int .u8 0, .int .u8 0, .int .u8 0, .int .u8 0, .int .u8 0, .int .u8 0, .int .u8 0, .int .u8 0, .int .u8 0, .int .u8 0, .int .u8 0, .string (ByteArray.mk #[]), .int .i64 0, .slice none 0 0, .slice none 0 0, .slice none 0 0, .int .i64 0, .int .i64 0] : Array Value) 35)).drew) (A := A) (B := CB) (X := w5.heap.size + 1) (Y := w5.heap.size) (Z := w5.heap.size + 2) (by have := HCM.out; have := HMM.out; omega) (by have := HCM.out; have := HMM.out; omega) (by have := HCM.out; have := HMM.out; omega))
          have HK3 := HK.out _ HMA3.out
          refine wpAnyH_ready (rs := [6]) (by kernel_rfl) (by simp) ?_
          refine AllReadyH.cons (by simp only [List.getElem?_toArray, List.getElem?_cons_succ, List.getElem?_cons_zero]; exact rfl) (fun K hK => ?_) AllReadyH.nil
          rw [if_pos (by kernel_rfl)]
          refine wp_store_row 35 _ _ rfl (w5.heap.size + 1) A rfl rfl 35 _ HZ1.out (by rw [HAS.out]; exact info98) (by rw [HAS.out]; rfl) HA1.out ?_
          refine hK.out _ _ (HRS.out.1.trans HK3) (fun hHeld => ?_)
          clear hK K
          (try simp only [Act.put])
          refine wpAnyH_ready (rs := [7]) (by kernel_rfl) (by simp) ?_
          refine AllReadyH.cons (by simp only [List.getElem?_toArray, List.getElem?_cons_succ, List.getElem?_cons_zero]; exact rfl) (fun K hK => ?_) AllReadyH.nil
          rw [if_pos (by kernel_rfl)]
          refine wp_store_row 35 _ _ rfl (w5.heap.size) A rfl rfl 35 _ HR3.out.1 (by rw [HAS.out]; exact info98) (by rw [HAS.out]; rfl) HA1.out ?_
          refine hK.out _ _ (HRS.out.2.1.trans HK3) (fun hHeld => ?_)
          clear hK K
          (try simp only [Act.put])
          refine wpAnyH_ready (rs := [8]) (by kernel_rfl) (by simp) ?_
          refine AllReadyH.cons (by simp only [List.getElem?_toArray, List.getElem?_cons_succ, List.getElem?_cons_zero]; exact rfl) (fun K hK => ?_) AllReadyH.nil
          rw [if_pos (by kernel_rfl)]
          refine wp_store_row 35 _ _ rfl (w5.heap.size + 2) A rfl rfl 35 _ HR3.out.2.1 (by rw [HAS.out]; exact info98) (by rw [HAS.out]; rfl) HA1.out ?_
          refine hK.out _ _ (HRS.out.2.2.trans HK3) (fun hHeld => ?_)
          clear hK K
          (try simp only [Act.put])
          refine wpAnyH_done (by kernel_rfl) ?_ _
          go_wp2_with fail
          go_meet
          case rel => exact ⟨w5.heap.size + 1, w5.heap.size, w5.heap.size + 2, rfl, rfl, rfl, Lib.hid ⟨by rw [HMM.out]; omega, by rw [HMM.out]; omega, by rw [HMM.out]; omega, by omega, by omega, by omega⟩, Lib.hid HR3.out.2.2, Lib.hid (more_of (below_setRow (below_setRow (below_setRow HMA3.out.below (by omega) _) (by omega) _) (by omega) _))⟩
      · rw [if_pos (by kernel_rfl)]
        go_simp
        refine hK.out _ _ (HK.out _ HMA2.out) (fun hHeld => ?_)
        clear hK K
        (try simp only [Act.put, List.setIfInBounds_toArray, List.set_cons_zero, List.set_cons_succ])
        refine wpAnyH_ready (rs := [3]) (by kernel_rfl) (by simp) ?_
        refine AllReadyH.cons (by simp only [List.getElem?_toArray, List.getElem?_cons_succ, List.getElem?_cons_zero]; exact rfl) (fun K hK => ?_) (AllReadyH.nil)
        · rw [if_pos (by kernel_rfl)]
          go_simp
          refine hK.out _ _ (HK.out _ HMA3.out) (fun hHeld => ?_)
          clear hK K
          (try simp only [Act.put, List.setIfInBounds_toArray, List.set_cons_zero, List.set_cons_succ])
          have HR3 := Lib.hid (rows3 (A := A) HZ2.out HZ0.out HZ1.out (show w5.heap.size + 2 ≠ w5.heap.size by omega) (show w5.heap.size ≠ w5.heap.size + 1 by omega) (show w5.heap.size + 2 ≠ w5.heap.size + 1 by omega))
          have HRS := Lib.hid (rows3_same (W := (((w5.alloc (.cells (#[.int .u8 0, .int .u8 0, .int .u8 0, .int .u8 0, .int .u8 0, .int .u8 0, .int .u8 0, .int .u8 0, .int .u8 0, .int .u8 0, .int .u8 0, .int .u8 0, .int .u8 0, .int .u8 0, .int .u8 0, .int .u8 0, .int .u8 0, .int .u8 0, .int .u8 0, .int .u8 0, .int .u8 0, .int .u8 0, .int .u8 0, .int .u8 0, .int .u8 0, .int .u8 0, .int .u8 0, .int .u8 0, .int .u8 0, .int .u8 0, .int .u8 0, .int .u8 0, .string (ByteArray.mk #[]), .int .i64 0, .slice none 0 0, .slice none 0 0, .slice none 0 0, .int .i64 0, .int .i64 0] : Array Value) 35)).alloc (.cells (#[.int .u8 0, .int .u8 0, .int .u8 0, .int .u8 0, .int .u8 0, .int .u8 0, .int .u8 0, .int .u8 0, .int .u8 0, .int .u8 0, .int .u8 0, .int .u8 0, .int .u8 0, .int .u8 0, .int .u8 0, .int .u8 0, .int .u8 0, .int .u8 0, .int .u8 0, .int .u8 0, .int .u8 0, .int .u8 0, .int .u8 0, .int .u8 0, .int .u8 0, .int .u8 0, .int .u8 0, .int .u8 0, .int .u8 0, .int .u8 0, .int .u8 0, .int .u8 0, .string (ByteArray.mk #[]), .int .i64 0, .slice none 0 0, .slice none 0 0, .slice none 0 0, .int .i64 0, .int .i64 0] : Array Value) 35)).alloc (.cells (#[.int .u8 0, .int .u8 0, .int .u8 0, .int .u8 0, .int .u8 0, .int .u8 0, .int .u8 0, .int .u8 0, .int .u8 0, .int .u8 0, .int .u8 0, .int .u8 0, .int .u8 0, .int .u8 0, .int .u8 0, .int .u8 0, .int .u8 0, .int .u8 0, .int .u8 0, .int .u8 0, .int .u8 0, .int .u8 0, .int .u8 0, .int .u8 0, .int .u8 0, .int .u8 0, .int .u8 0, .int .u8 0, .int .u8 0, .int .u8 0, .int .u8 0, .int .u8 0, .string (ByteArray.mk #[]), .int .i64 0, .slice none 0 0, .slice none 0 0, .slice none 0 0, .int .i64 0, .int .i64 0] : Array Value) 35)).drew) (A := A) (B := CB) (X := w5.heap.size + 2) (Y := w5.heap.size) (Z := w5.heap.size + 1) (by have := HCM.out; have := HMM.out; omega) (by have := HCM.out; have := HMM.out; omega) (by have := HCM.out; have := HMM.out; omega))
          have HK3 := HK.out _ HMA3.out
          refine wpAnyH_ready (rs := [6]) (by kernel_rfl) (by simp) ?_
          refine AllReadyH.cons (by simp only [List.getElem?_toArray, List.getElem?_cons_succ, List.getElem?_cons_zero]; exact rfl) (fun K hK => ?_) AllReadyH.nil
          rw [if_pos (by kernel_rfl)]
          refine wp_store_row 35 _ _ rfl (w5.heap.size + 2) A rfl rfl 35 _ HZ2.out (by rw [HAS.out]; exact info98) (by rw [HAS.out]; rfl) HA1.out ?_
          refine hK.out _ _ (HRS.out.1.trans HK3) (fun hHeld => ?_)
          clear hK K
          (try simp only [Act.put])
          refine wpAnyH_ready (rs := [7]) (by kernel_rfl) (by simp) ?_
          refine AllReadyH.cons (by simp only [List.getElem?_toArray, List.getElem?_cons_succ, List.getElem?_cons_zero]; exact rfl) (fun K hK => ?_) AllReadyH.nil
          rw [if_pos (by kernel_rfl)]
          refine wp_store_row 35 _ _ rfl (w5.heap.size) A rfl rfl 35 _ HR3.out.1 (by rw [HAS.out]; exact info98) (by rw [HAS.out]; rfl) HA1.out ?_
          refine hK.out _ _ (HRS.out.2.1.trans HK3) (fun hHeld => ?_)
          clear hK K
          (try simp only [Act.put])
          refine wpAnyH_ready (rs := [8]) (by kernel_rfl) (by simp) ?_
          refine AllReadyH.cons (by simp only [List.getElem?_toArray, List.getElem?_cons_succ, List.getElem?_cons_zero]; exact rfl) (fun K hK => ?_) AllReadyH.nil
          rw [if_pos (by kernel_rfl)]
          refine wp_store_row 35 _ _ rfl (w5.heap.size + 1) A rfl rfl 35 _ HR3.out.2.1 (by rw [HAS.out]; exact info98) (by rw [HAS.out]; rfl) HA1.out ?_
          refine hK.out _ _ (HRS.out.2.2.trans HK3) (fun hHeld => ?_)
          clear hK K
          (try simp only [Act.put])
          refine wpAnyH_done (by kernel_rfl) ?_ _
          go_wp2_with fail
          go_meet
          case rel => exact ⟨w5.heap.size + 2, w5.heap.size, w5.heap.size + 1, rfl, rfl, rfl, Lib.hid ⟨by rw [HMM.out]; omega, by rw [HMM.out]; omega, by rw [HMM.out]; omega, by omega, by omega, by omega⟩, Lib.hid HR3.out.2.2, Lib.hid (more_of (below_setRow (below_setRow (below_setRow HMA3.out.below (by omega) _) (by omega) _) (by omega) _))⟩
    · rw [if_pos (by kernel_rfl)]
      go_simp
      refine hK.out _ _ (HK.out _ HMA1.out) (fun hHeld => ?_)
      clear hK K
      (try simp only [Act.put, List.setIfInBounds_toArray, List.set_cons_zero, List.set_cons_succ])
      refine wpAnyH_ready (rs := [3, 4]) (by kernel_rfl) (by simp) ?_
      refine AllReadyH.cons (by simp only [List.getElem?_toArray, List.getElem?_cons_succ, List.getElem?_cons_zero]; exact rfl) (fun K hK => ?_) (AllReadyH.cons (by simp only [List.getElem?_toArray, List.getElem?_cons_succ, List.getElem?_cons_zero]; exact rfl) (fun K hK => ?_) (AllReadyH.nil))
      · rw [if_pos (by kernel_rfl)]
        go_simp
        refine hK.out _ _ (HK.out _ HMA2.out) (fun hHeld => ?_)
        clear hK K
        (try simp only [Act.put, List.setIfInBounds_toArray, List.set_cons_zero, List.set_cons_succ])
        refine wpAnyH_ready (rs := [4]) (by kernel_rfl) (by simp) ?_
        refine AllReadyH.cons (by simp only [List.getElem?_toArray, List.getElem?_cons_succ, List.getElem?_cons_zero]; exact rfl) (fun K hK => ?_) (AllReadyH.nil)
        · rw [if_pos (by kernel_rfl)]
          go_simp
          refine hK.out _ _ (HK.out _ HMA3.out) (fun hHeld => ?_)
          clear hK K
          (try simp only [Act.put, List.setIfInBounds_toArray, List.set_cons_zero, List.set_cons_succ])
          have HR3 := Lib.hid (rows3 (A := A) HZ1.out HZ2.out HZ0.out (show w5.heap.size + 1 ≠ w5.heap.size + 2 by omega) (show w5.heap.size + 2 ≠ w5.heap.size by omega) (show w5.heap.size + 1 ≠ w5.heap.size by omega))
          have HRS := Lib.hid (rows3_same (W := (((w5.alloc (.cells (#[.int .u8 0, .int .u8 0, .int .u8 0, .int .u8 0, .int .u8 0, .int .u8 0, .int .u8 0, .int .u8 0, .int .u8 0, .int .u8 0, .int .u8 0, .int .u8 0, .int .u8 0, .int .u8 0, .int .u8 0, .int .u8 0, .int .u8 0, .int .u8 0, .int .u8 0, .int .u8 0, .int .u8 0, .int .u8 0, .int .u8 0, .int .u8 0, .int .u8 0, .int .u8 0, .int .u8 0, .int .u8 0, .int .u8 0, .int .u8 0, .int .u8 0, .int .u8 0, .string (ByteArray.mk #[]), .int .i64 0, .slice none 0 0, .slice none 0 0, .slice none 0 0, .int .i64 0, .int .i64 0] : Array Value) 35)).alloc (.cells (#[.int .u8 0, .int .u8 0, .int .u8 0, .int .u8 0, .int .u8 0, .int .u8 0, .int .u8 0, .int .u8 0, .int .u8 0, .int .u8 0, .int .u8 0, .int .u8 0, .int .u8 0, .int .u8 0, .int .u8 0, .int .u8 0, .int .u8 0, .int .u8 0, .int .u8 0, .int .u8 0, .int .u8 0, .int .u8 0, .int .u8 0, .int .u8 0, .int .u8 0, .int .u8 0, .int .u8 0, .int .u8 0, .int .u8 0, .int .u8 0, .int .u8 0, .int .u8 0, .string (ByteArray.mk #[]), .int .i64 0, .slice none 0 0, .slice none 0 0, .slice none 0 0, .int .i64 0, .int .i64 0] : Array Value) 35)).alloc (.cells (#[.int .u8 0, .int .u8 0, .int .u8 0, .int .u8 0, .int .u8 0, .int .u8 0, .int .u8 0, .int .u8 0, .int .u8 0, .int .u8 0, .int .u8 0, .int .u8 0, .int .u8 0, .int .u8 0, .int .u8 0, .int .u8 0, .int .u8 0, .int .u8 0, .int .u8 0, .int .u8 0, .int .u8 0, .int .u8 0, .int .u8 0, .int .u8 0, .int .u8 0, .int .u8 0, .int .u8 0, .int .u8 0, .int .u8 0, .int .u8 0, .int .u8 0, .int .u8 0, .string (ByteArray.mk #[]), .int .i64 0, .slice none 0 0, .slice none 0 0, .slice none 0 0, .int .i64 0, .int .i64 0] : Array Value) 35)).drew) (A := A) (B := CB) (X := w5.heap.size + 1) (Y := w5.heap.size + 2) (Z := w5.heap.size) (by have := HCM.out; have := HMM.out; omega) (by have := HCM.out; have := HMM.out; omega) (by have := HCM.out; have := HMM.out; omega))
          have HK3 := HK.out _ HMA3.out
          refine wpAnyH_ready (rs := [6]) (by kernel_rfl) (by simp) ?_
          refine AllReadyH.cons (by simp only [List.getElem?_toArray, List.getElem?_cons_succ, List.getElem?_cons_zero]; exact rfl) (fun K hK => ?_) AllReadyH.nil
          rw [if_pos (by kernel_rfl)]
          refine wp_store_row 35 _ _ rfl (w5.heap.size + 1) A rfl rfl 35 _ HZ1.out (by rw [HAS.out]; exact info98) (by rw [HAS.out]; rfl) HA1.out ?_
          refine hK.out _ _ (HRS.out.1.trans HK3) (fun hHeld => ?_)
          clear hK K
          (try simp only [Act.put])
          refine wpAnyH_ready (rs := [7]) (by kernel_rfl) (by simp) ?_
          refine AllReadyH.cons (by simp only [List.getElem?_toArray, List.getElem?_cons_succ, List.getElem?_cons_zero]; exact rfl) (fun K hK => ?_) AllReadyH.nil
          rw [if_pos (by kernel_rfl)]
          refine wp_store_row 35 _ _ rfl (w5.heap.size + 2) A rfl rfl 35 _ HR3.out.1 (by rw [HAS.out]; exact info98) (by rw [HAS.out]; rfl) HA1.out ?_
          refine hK.out _ _ (HRS.out.2.1.trans HK3) (fun hHeld => ?_)
          clear hK K
          (try simp only [Act.put])
          refine wpAnyH_ready (rs := [8]) (by kernel_rfl) (by simp) ?_
          refine AllReadyH.cons (by simp only [List.getElem?_toArray, List.getElem?_cons_succ, List.getElem?_cons_zero]; exact rfl) (fun K hK => ?_) AllReadyH.nil
          rw [if_pos (by kernel_rfl)]
          refine wp_store_row 35 _ _ rfl (w5.heap.size) A rfl rfl 35 _ HR3.out.2.1 (by rw [HAS.out]; exact info98) (by rw [HAS.out]; rfl) HA1.out ?_
          refine hK.out _ _ (HRS.out.2.2.trans HK3) (fun hHeld => ?_)
          clear hK K
          (try simp only [Act.put])
          refine wpAnyH_done (by kernel_rfl) ?_ _
          go_wp2_with fail
          go_meet
          case rel => exact ⟨w5.heap.size + 1, w5.heap.size + 2, w5.heap.size, rfl, rfl, rfl, Lib.hid ⟨by rw [HMM.out]; omega, by rw [HMM.out]; omega, by rw [HMM.out]; omega, by omega, by omega, by omega⟩, Lib.hid HR3.out.2.2, Lib.hid (more_of (below_setRow (below_setRow (below_setRow HMA3.out.below (by omega) _) (by omega) _) (by omega) _))⟩
      · rw [if_pos (by kernel_rfl)]
        go_simp
        refine hK.out _ _ (HK.out _ HMA2.out) (fun hHeld => ?_)
        clear hK K
        (try simp only [Act.put, List.setIfInBounds_toArray, List.set_cons_zero, List.set_cons_succ])
        refine wpAnyH_ready (rs := [3]) (by kernel_rfl) (by simp) ?_
        refine AllReadyH.cons (by simp only [List.getElem?_toArray, List.getElem?_cons_succ, List.getElem?_cons_zero]; exact rfl) (fun K hK => ?_) (AllReadyH.nil)
        · rw [if_pos (by kernel_rfl)]
          go_simp
          refine hK.out _ _ (HK.out _ HMA3.out) (fun hHeld => ?_)
          clear hK K
          (try simp only [Act.put, List.setIfInBounds_toArray, List.set_cons_zero, List.set_cons_succ])
          have HR3 := Lib.hid (rows3 (A := A) HZ2.out HZ1.out HZ0.out (show w5.heap.size + 2 ≠ w5.heap.size + 1 by omega) (show w5.heap.size + 1 ≠ w5.heap.size by omega) (show w5.heap.size + 2 ≠ w5.heap.size by omega))
          have HRS := Lib.hid (rows3_same (W := (((w5.alloc (.cells (#[.int .u8 0, .int .u8 0, .int .u8 0, .int .u8 0, .int .u8 0, .int .u8 0, .int .u8 0, .int .u8 0, .int .u8 0, .int .u8 0, .int .u8 0, .int .u8 0, .int .u8 0, .int .u8 0, .int .u8 0, .int .u8 0, .int .u8 0, .int .u8 0, .int .u8 0, .int .u8 0, .int .u8 0, .int .u8 0, .int .u8 0, .int .u8 0, .int .u8 0, .int .u8 0, .int .u8 0, .int .u8 0, .int .u8 0, .int .u8 0, .int .u8 0, .int .u8 0, .string (ByteArray.mk #[]), .int .i64 0, .slice none 0 0, .slice none 0 0, .slice none 0 0, .int .i64 0, .int .i64 0] : Array Value) 35)).alloc (.cells (#[.int .u8 0, .int .u8 0, .int .u8 0, .int .u8 0, .int .u8 0, .int .u8 0, .int .u8 0, .int .u8 0, .int .u8 0, .int .u8 0, .int .u8 0, .int .u8 0, .int .u8 0, .int .u8 0, .int .u8 0, .int .u8 0, .int .u8 0, .int .u8 0, .int .u8 0, .int .u8 0, .int .u8 0, .int .u8 0, .int .u8 0, .int .u8 0, .int .u8 0, .int .u8 0, .int .u8 0, .int .u8 0, .int .u8 0, .int .u8 0, .int .u8 0, .int .u8 0, .string (ByteArray.mk #[]), .int .i64 0, .slice none 0 0, .slice none 0 0, .slice none 0 0, .int .i64 0, .int .i64 0] : Array Value) 35)).alloc (.cells (#[.int .u8 0, .int .u8 0, .int .u8 0, .int .u8 0, .int .u8 0, .int .u8 0, .int .u8 0, .int .u8 0, .int .u8 0, .int .u8 0, .int .u8 0, .int .u8 0, .int .u8 0, .int .u8 0, .int .u8 0, .int .u8 0, .int .u8 0, .int .u8 0, .int .u8 0, .int .u8 0, .int .u8 0, .int .u8 0, .int .u8 0, .int .u8 0, .int .u8 0, .int .u8 0, .int .u8 0, .int .u8 0, .int .u8 0, .int .u8 0, .int .u8 0, .int .u8 0, .string (ByteArray.mk #[]), .int .i64 0, .slice none 0 0, .slice none 0 0, .slice none 0 0, .int .i64 0, .int .i64 0] : Array Value) 35)).drew) (A := A) (B := CB) (X := w5.heap.size + 2) (Y := w5.heap.size + 1) (Z := w5.heap.size) (by have := HCM.out; have := HMM.out; omega) (by have := HCM.out; have := HMM.out; omega) (by have := HCM.out; have := HMM.out; omega))
          have HK3 := HK.out _ HMA3.out
          refine wpAnyH_ready (rs := [6]) (by kernel_rfl) (by simp) ?_
          refine AllReadyH.cons (by simp only [List.getElem?_toArray, List.getElem?_cons_succ, List.getElem?_cons_zero]; exact rfl) (fun K hK => ?_) AllReadyH.nil
          rw [if_pos (by kernel_rfl)]
          refine wp_store_row 35 _ _ rfl (w5.heap.size + 2) A rfl rfl 35 _ HZ2.out (by rw [HAS.out]; exact info98) (by rw [HAS.out]; rfl) HA1.out ?_
          refine hK.out _ _ (HRS.out.1.trans HK3) (fun hHeld => ?_)
          clear hK K
          (try simp only [Act.put])
          refine wpAnyH_ready (rs := [7]) (by kernel_rfl) (by simp) ?_
          refine AllReadyH.cons (by simp only [List.getElem?_toArray, List.getElem?_cons_succ, List.getElem?_cons_zero]; exact rfl) (fun K hK => ?_) AllReadyH.nil
          rw [if_pos (by kernel_rfl)]
          refine wp_store_row 35 _ _ rfl (w5.heap.size + 1) A rfl rfl 35 _ HR3.out.1 (by rw [HAS.out]; exact info98) (by rw [HAS.out]; rfl) HA1.out ?_
          refine hK.out _ _ (HRS.out.2.1.trans HK3) (fun hHeld => ?_)
          clear hK K
          (try simp only [Act.put])
          refine wpAnyH_ready (rs := [8]) (by kernel_rfl) (by simp) ?_
          refine AllReadyH.cons (by simp only [List.getElem?_toArray, List.getElem?_cons_succ, List.getElem?_cons_zero]; exact rfl) (fun K hK => ?_) AllReadyH.nil
          rw [if_pos (by kernel_rfl)]
          refine wp_store_row 35 _ _ rfl (w5.heap.size) A rfl rfl 35 _ HR3.out.2.1 (by rw [HAS.out]; exact info98) (by rw [HAS.out]; rfl) HA1.out ?_
          refine hK.out _ _ (HRS.out.2.2.trans HK3) (fun hHeld => ?_)
          clear hK K
          (try simp only [Act.put])
          refine wpAnyH_done (by kernel_rfl) ?_ _
          go_wp2_with fail
          go_meet
          case rel => exact ⟨w5.heap.size + 2, w5.heap.size + 1, w5.heap.size, rfl, rfl, rfl, Lib.hid ⟨by rw [HMM.out]; omega, by rw [HMM.out]; omega, by rw [HMM.out]; omega, by omega, by omega, by omega⟩, Lib.hid HR3.out.2.2, Lib.hid (more_of (below_setRow (below_setRow (below_setRow HMA3.out.below (by omega) _) (by omega) _) (by omega) _))⟩
  case rest =>
    obtain ⟨X, Y, Z, rfl, rfl, rfl, HXYZ, HROW, HMC⟩ := hcut
    obtain ⟨w6, rfl⟩ : ∃ w6 : World, w6 = wc := ⟨_, rfl⟩
    have hx38 : w6.cell? ⟨X, 38, none⟩ = some (.int .i64 0) := cell_of_blk HROW.out.1 HA38.out
    have hfx := thaw HROW.out.1 38
    have hbx := cell_lt hx38
    go_upto_region 6 with (fail)
    have HX7 := Lib.hid (setCell_heap (o := 38) (v := .int .i64 9) HROW.out.1)
    have HY7 := Lib.hid ((Below.heap_setCell w6 ⟨X, 38, none⟩ (.int .i64 9) Y (Ne.symm HXYZ.out.2.2.2.1)).trans HROW.out.2.1)
    have HZ7 := Lib.hid ((Below.heap_setCell w6 ⟨X, 38, none⟩ (.int .i64 9) Z (Ne.symm HXYZ.out.2.2.2.2.2)).trans HROW.out.2.2)
    have HB7 := Lib.hid (show Below M w5 (w6.setCell ⟨X, 38, none⟩ (.int .i64 9)) from (by rw [HMM.out]; exact HMC.out.below : Below M w5 w6).setCell (p := ⟨X, 38, none⟩) HXYZ.out.1 _)
    clear hx38 hfx hbx
    generalize w6.setCell ⟨X, 38, none⟩ (.int .i64 9) = w7 at *
    have hy35 : w7.cell? ⟨Y, 35, none⟩ = some (.slice (some ⟨UB, 0, none⟩) 1 1) := cell_of_blk HY7.out HA35.out
    have hfy := thaw HY7.out 35
    have hby := cell_lt hy35
    go_upto_region 7 with (fail)
    have HY8 := Lib.hid (setCell_heap (o := 35) (v := .slice none 0 0) HY7.out)
    have HX8 := Lib.hid ((Below.heap_setCell w7 ⟨Y, 35, none⟩ (.slice none 0 0) X HXYZ.out.2.2.2.1).trans HX7.out)
    have HZ8 := Lib.hid ((Below.heap_setCell w7 ⟨Y, 35, none⟩ (.slice none 0 0) Z (Ne.symm HXYZ.out.2.2.2.2.1)).trans HZ7.out)
    have HB8 := Lib.hid (HB7.out.setCell (p := ⟨Y, 35, none⟩) HXYZ.out.2.1 (.slice none 0 0))
    clear hy35 hfy hby
    generalize w7.setCell ⟨Y, 35, none⟩ (.slice none 0 0) = w8 at *
    have hz35 : w8.cell? ⟨Z, 35, none⟩ = some (.slice (some ⟨UB, 0, none⟩) 1 1) := cell_of_blk HZ8.out HA35.out
    have hfz := thaw HZ8.out 35
    have hbz := cell_lt hz35
    go_upto_region 8 with (fail)
    have HV9 := Lib.hid (show ((w8.setCell ⟨Z, 35, none⟩ (.slice (some ⟨w8.heap.size, 0, none⟩) 1 1)).alloc (.cells #[.int .u8 5, .int .i64 0, .int .i64 0, .int .i64 0] 53)).heap[w8.heap.size]? = some (.cells #[.int .u8 5, .int .i64 0, .int .i64 0, .int .i64 0] 53) from by have h1 := alloc_last (w8.setCell ⟨Z, 35, none⟩ (.slice (some ⟨w8.heap.size, 0, none⟩) 1 1)) (.cells #[.int .u8 5, .int .i64 0, .int .i64 0, .int .i64 0] 53); rw [World.size_setCell] at h1; exact h1)
    have HZ9 := Lib.hid (show ((w8.setCell ⟨Z, 35, none⟩ (.slice (some ⟨w8.heap.size, 0, none⟩) 1 1)).alloc (.cells #[.int .u8 5, .int .i64 0, .int .i64 0, .int .i64 0] 53)).heap[Z]? = some (.cells (A.setIfInBounds 35 (.slice (some ⟨w8.heap.size, 0, none⟩) 1 1)) 35) from (Below.heap_alloc _ _ _ (by rw [World.size_setCell]; exact blk_lt HZ8.out)).trans (setCell_heap HZ8.out))
    have HX9 := Lib.hid (show ((w8.setCell ⟨Z, 35, none⟩ (.slice (some ⟨w8.heap.size, 0, none⟩) 1 1)).alloc (.cells #[.int .u8 5, .int .i64 0, .int .i64 0, .int .i64 0] 53)).heap[X]? = some (.cells (A.setIfInBounds 38 (.int .i64 9)) 35) from (Below.heap_alloc _ _ _ (by rw [World.size_setCell]; exact blk_lt HX8.out)).trans ((Below.heap_setCell w8 ⟨Z, 35, none⟩ _ X HXYZ.out.2.2.2.2.2).trans HX8.out))
    have HY9 := Lib.hid (show ((w8.setCell ⟨Z, 35, none⟩ (.slice (some ⟨w8.heap.size, 0, none⟩) 1 1)).alloc (.cells #[.int .u8 5, .int .i64 0, .int .i64 0, .int .i64 0] 53)).heap[Y]? = some (.cells (A.setIfInBounds 35 (.slice none 0 0)) 35) from (Below.heap_alloc _ _ _ (by rw [World.size_setCell]; exact blk_lt HY8.out)).trans ((Below.heap_setCell w8 ⟨Z, 35, none⟩ _ Y HXYZ.out.2.2.2.2.1).trans HY8.out))
    have HB9 := Lib.hid (show Below M w5 ((w8.setCell ⟨Z, 35, none⟩ (.slice (some ⟨w8.heap.size, 0, none⟩) 1 1)).alloc (.cells #[.int .u8 5, .int .i64 0, .int .i64 0, .int .i64 0] 53)) from (HB8.out.setCell (p := ⟨Z, 35, none⟩) HXYZ.out.2.2.1 _).alloc (by rw [World.size_setCell]; have h1 := blk_lt HX8.out; have h2 := HXYZ.out.1; omega) _)
    clear hz35 hfz hbz
    generalize ((w8.setCell ⟨Z, 35, none⟩ (.slice (some ⟨w8.heap.size, 0, none⟩) 1 1)).alloc (.cells #[.int .u8 5, .int .i64 0, .int .i64 0, .int .i64 0] 53)) = w9 at *
    generalize w8.heap.size = VB at *
    have HM9 := Lib.hid (show More w5 w9 from more_of (by rw [← HMM.out]; exact HB9.out))
    have HC9 := Lib.hid ((HM9.out.block (blk_lt HC5.out)).trans HC5.out)
    have HU9 := Lib.hid ((HM9.out.block (blk_lt HU5.out)).trans HU5.out)
    have HMT := Lib.hid (more_trans HM3.out (more_trans HM4.out (more_trans HM5.out HM9.out)))
    have HS9 := Lib.hid (show SetAt anyB w9 (.slice sa 1 sc) [y] from HS3.out.any.more (more_trans HM4.out (more_trans HM5.out HM9.out)))
    have HCA := Lib.hid (show CertAt w9 A (cE sa sc y (.slice (some ⟨UB, 0, none⟩) 1 1) [kE] 0) from certE HAS.out HA32.out HA33.out HA34.out HA35.out HA36.out HA37.out HA38.out HS9.out (rowE HU9.out) (by decide))
    have HCX := Lib.hid (show CertAt w9 (A.setIfInBounds 38 (.int .i64 9)) (cE sa sc y (.slice (some ⟨UB, 0, none⟩) 1 1) [kE] 9) from certE (by rw [Array.size_setIfInBounds]; exact HAS.out) ((set_ne8 (by decide)).trans HA32.out) ((set_ne8 (by decide)).trans HA33.out) ((set_ne8 (by decide)).trans HA34.out) ((set_ne8 (by decide)).trans HA35.out) ((set_ne8 (by decide)).trans HA36.out) ((set_ne8 (by decide)).trans HA37.out) (set_eq8 (by rw [HAS.out]; decide)) HS9.out (rowE HU9.out) (by decide))
    have HCY := Lib.hid (show CertAt w9 (A.setIfInBounds 35 (.slice none 0 0)) (cE sa sc y (.slice none 0 0) [] 0) from certE (by rw [Array.size_setIfInBounds]; exact HAS.out) ((set_ne8 (by decide)).trans HA32.out) ((set_ne8 (by decide)).trans HA33.out) ((set_ne8 (by decide)).trans HA34.out) (set_eq8 (by rw [HAS.out]; decide)) ((set_ne8 (by decide)).trans HA36.out) ((set_ne8 (by decide)).trans HA37.out) ((set_ne8 (by decide)).trans HA38.out) HS9.out (Row.nil _ _ _ _ _) (by decide))
    have HCZ := Lib.hid (show CertAt w9 (A.setIfInBounds 35 (.slice (some ⟨VB, 0, none⟩) 1 1)) (cE sa sc y (.slice (some ⟨VB, 0, none⟩) 1 1) [⟨5, 0, 0, 0⟩] 0) from certE (by rw [Array.size_setIfInBounds]; exact HAS.out) ((set_ne8 (by decide)).trans HA32.out) ((set_ne8 (by decide)).trans HA33.out) ((set_ne8 (by decide)).trans HA34.out) (set_eq8 (by rw [HAS.out]; decide)) ((set_ne8 (by decide)).trans HA36.out) ((set_ne8 (by decide)).trans HA37.out) ((set_ne8 (by decide)).trans HA38.out) HS9.out (rowE HV9.out) (by decide))
    have HSX := Lib.hid (show (A.setIfInBounds 38 (.int .i64 9)).size = 39 by rw [Array.size_setIfInBounds]; exact HAS.out)
    have HSY := Lib.hid (show (A.setIfInBounds 35 (.slice none 0 0)).size = 39 by rw [Array.size_setIfInBounds]; exact HAS.out)
    have HSZ := Lib.hid (show (A.setIfInBounds 35 (.slice (some ⟨VB, 0, none⟩) 1 1)).size = 39 by rw [Array.size_setIfInBounds]; exact HAS.out)
    generalize A.setIfInBounds 38 (.int .i64 9) = AX at *
    generalize A.setIfInBounds 35 (.slice none 0 0) = AY at *
    generalize A.setIfInBounds 35 (.slice (some ⟨VB, 0, none⟩) 1 1) = AZ at *
    have HL9 := Lib.hid (show More w9 w9 from World.grownBy.refl _ _)
    go_wp2_with (refine wpList_load98g (by kernel_rfl) _ rfl CB rfl A (((HL9.out.block (blk_lt HC9.out))).trans HC9.out) HAS.out ?_)
    refine (check50_any A _ w9 (HCA.out.more HL9.out)).mono ?_
    rintro e w10 ⟨⟨E, rfl, hE⟩, hb⟩
    obtain rfl : E = 0 := hE.same (cE_ok HY.out)
    have HL10 := Lib.hid (more_trans HL9.out (more_of hb))
    clear hE hb
    go_wp2_with (refine wpList_load98g (by kernel_rfl) _ rfl X rfl AX (((HL10.out.block (blk_lt HX9.out))).trans HX9.out) HSX.out ?_)
    refine (check50_any AX _ w10 (HCX.out.more HL10.out)).mono ?_
    rintro e w11 ⟨⟨E, rfl, hE⟩, hb⟩
    obtain rfl : E = 2 := hE.same (cE_late)
    have HL11 := Lib.hid (more_trans HL10.out (more_of hb))
    clear hE hb
    go_wp2_with (refine wpList_load98g (by kernel_rfl) _ rfl Y rfl AY (((HL11.out.block (blk_lt HY9.out))).trans HY9.out) HSY.out ?_)
    refine (check50_any AY _ w11 (HCY.out.more HL11.out)).mono ?_
    rintro e w12 ⟨⟨E, rfl, hE⟩, hb⟩
    obtain rfl : E = 1 := hE.same (cE_empty)
    have HL12 := Lib.hid (more_trans HL11.out (more_of hb))
    clear hE hb
    go_wp2_with (refine wpList_load98g (by kernel_rfl) _ rfl Z rfl AZ (((HL12.out.block (blk_lt HZ9.out))).trans HZ9.out) HSZ.out ?_)
    refine (check50_any AZ _ w12 (HCZ.out.more HL12.out)).mono ?_
    rintro e w13 ⟨⟨E, rfl, hE⟩, hb⟩
    obtain rfl : E = 4 := hE.same (cE_wrong HY.out)
    have HL13 := Lib.hid (more_trans HL12.out (more_of hb))
    clear hE hb
    obtain ⟨t, ht, ht33⟩ := encE (List.replicate 32 (0 : Int)) (cE sa sc y (.slice (some ⟨UB, 0, none⟩) 1 1) [kE] 0) (by simp)
    have HBY := Lib.hid (fun W (hW : More w9 W) => bytes56_nohold A _ (List.replicate 32 (0 : Int)) W (HCA.out.more hW) (by simp) HAF.out (fun p hp n hn => by
        have hp : p = y := by simpa [cE] using hp
        subst hp; rw [HY.out] at hn; simp [xE] at hn) (cE_ok HY.out) rfl)
    rw [ht] at HBY
    obtain ⟨L, hL⟩ : ∃ L, L = (1 :: t : List Int).length := ⟨_, rfl⟩
    have hl33 : (33 : Int) < L := by rw [hL, List.length_cons]; omega
    have hl0 : (0 : Int) < L := by omega
    have HLL := Lib.hid hL
    rw [← hL] at HBY
    clear hL ht ht33
    go_wp2_with (refine wpList_load98g (by kernel_rfl) _ rfl CB rfl A (((HL13.out.block (blk_lt HC9.out))).trans HC9.out) HAS.out ?_)
    refine (HBY.out w13 HL13.out).mono ?_
    rintro e w14 ⟨⟨v, rfl, ho⟩, hb⟩
    have HL14 := Lib.hid (more_trans HL13.out (more_of hb))
    obtain ⟨va, vc, rfl, _⟩ := owns_shape ho
    obtain ⟨b0, o0, hbo, _, _, hc⟩ := (Row.of_owns ho).at (by rw [HLL.out, List.length_cons]; omega)
    subst hbo
    have c0 := hc 0 (.int .u8 1) rfl
    rw [Nat.add_zero] at c0
    have hbc0 := cell_lt c0
    clear hc ho hb
    clear c0 hbc0
    go_wp2_with (refine wpList_load98g (by kernel_rfl) _ rfl CB rfl A (((HL14.out.block (blk_lt HC9.out))).trans HC9.out) HAS.out ?_)
    refine (HBY.out w14 HL14.out).mono ?_
    rintro e w15 ⟨⟨v, rfl, ho⟩, hb⟩
    have HL15 := Lib.hid (more_trans HL14.out (more_of hb))
    obtain ⟨va, vc, rfl, _⟩ := owns_shape ho
    obtain ⟨b1, o1, hbo, _, _, hc⟩ := (Row.of_owns ho).at (by rw [HLL.out, List.length_cons]; omega)
    subst hbo
    have c1 := hc 0 (.int .u8 1) rfl
    rw [Nat.add_zero] at c1
    have hbc1 := cell_lt c1
    clear hc ho hb
    go_wp2_with fail
    go_ret
    exact ⟨rfl, by rw [HN.out]; exact (more_trans HMT.out HL15.out).below⟩
end Go.Proofs.YtemeppfikpafbaaGreatDoor

