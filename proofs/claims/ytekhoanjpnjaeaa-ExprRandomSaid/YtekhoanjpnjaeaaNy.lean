/- Texts ShelfM, Coll, Reads54, Awake, DepV, RndV, MkV, laid together. -/
import Derived.Shelf.SlGeneric
import Derived.Shelf.SlIter.Nil
import Derived.Shelf.SortM.Plain
import Derived.Shelf.SortM.SortNone
import Derived.Ground.GgzProg
import Derived.Ground.SlgmProg
import Derived.Test.YtekhoanjpnjaeaaProg
import Derived.Deep.DeepCutAuto
import Derived.Deep.AppendLies
import Derived.Test.YtekhoanjpnjaeaaNc
import Derived.Test.YtekhoanjpnjaeaaNd
import Derived.Test.YtekhoanjpnjaeaaNk
import Derived.Test.YtekhoanjpnjaeaaNl
import Derived.Test.YtekhoanjpnjaeaaNm
import Derived.Test.YtekhoanjpnjaeaaNn
import Derived.Test.YtekhoanjpnjaeaaNp
import Derived.Test.YtekhoanjpnjaeaaNv
import Derived.Test.YtekhoanjpnjaeaaNw
import Derived.Test.YtekhoanjpnjaeaaNx
/-
  DERIVED: THE SHELF's CONTRACTS AT THIS DUMP, IN PLAIN WORDS (tools/lay-plain.mjs out of 'TryShelfM.lean', which tools/lay-shelf.mjs wrote): THE SAME DECLARATIONS UNDER THE SAME NAMES: 'import', 'namespace', 'open', 'def', 'theorem' AND NOTHING ELSE: no command of the shelf's: FOR A HAND-IN. Each laying: the table of numbers ('.._ren') and one theorem, a field a fact of the dump's own or the kernel's comparison; each contract: ONE APPLICATION.
-/
namespace Go.Proofs
open Go.Shelf
def Try.keys102_ren : Go.Shelf.Ren := ⟨fun | 7 => 102 | 10 => 132 | n => n, fun | 23 => 181 | 26 => 9 | 3 => 4 | 28 => 185 | 0 => 0 | 27 => 184 | 33 => 232 | 4 => 4 | n => n, fun | n => n⟩
theorem Try.keys102 : Go.Proofs.SlLaysZ.n7 Try.prog Try.keys102_ren := {
  mixed := by kernel_rfl
  f7 := ⟨Try.f102.name, by decide, Try.func102.trans (congrArg some (by kernel_rfl))⟩
  f10 := ⟨Try.f132.name, by decide, Try.func132.trans (congrArg some (by kernel_rfl))⟩
  t0 := Try.underlying0
  a0 := Try.isAgg0
  z0 := Try.sizeOf0
  v0 := Try.zeroValue0
  t4 := Try.underlying4
  a4 := Try.isAgg4
  z4 := Try.sizeOf4
  v4 := Try.zeroValue4
  t23 := Try.underlying181
  a23 := Try.isAgg181
  z23 := Try.sizeOf181
  v23 := Try.zeroValue181
  t26 := Try.underlying9
  a26 := Try.isAgg9
  z26 := Try.sizeOf9
  v26 := Try.zeroValue9
  t27 := Try.underlying184
  a27 := Try.isAgg184
  z27 := Try.sizeOf184
  v27 := Try.zeroValue184
  t28 := Try.underlying185
  a28 := Try.isAgg185
  z28 := Try.sizeOf185
  v28 := Try.zeroValue185
  t33 := Try.underlying232
  a33 := Try.isAgg232
  z33 := Try.sizeOf232
  v33 := Try.zeroValue232 }
def Try.sorted101_ren : Go.Shelf.Ren := ⟨fun | 6 => 101 | 8 => 130 | 9 => 131 | 11 => 137 | 13 => 139 | 12 => 138 | 23 => 152 | 24 => 153 | 14 => 143 | 15 => 144 | 16 => 145 | 17 => 146 | 18 => 147 | 19 => 148 | 20 => 149 | 21 => 150 | 22 => 151 | 25 => 159 | 26 => 160 | 27 => 161 | 28 => 162 | 29 => 163 | 30 => 164 | 31 => 165 | n => n, fun | 26 => 9 | 28 => 185 | 24 => 90 | 0 => 0 | 3 => 3 | 37 => 235 | 48 => 251 | 50 => 133 | 4 => 4 | 40 => 244 | 39 => 243 | 45 => 148 | 5 => 5 | 9 => 9 | 51 => 256 | 55 => 260 | 57 => 262 | 58 => 263 | 33 => 232 | n => n, fun | n => n⟩
theorem Try.sorted101 : Go.Proofs.SlLaysZ.n6 Try.prog Try.sorted101_ren := {
  mixed := by kernel_rfl
  f6 := ⟨Try.f101.name, by decide, Try.func101.trans (congrArg some (by kernel_rfl))⟩
  f8 := ⟨Try.f130.name, by decide, Try.func130.trans (congrArg some (by kernel_rfl))⟩
  f11 := ⟨Try.f137.name, by decide, Try.func137.trans (congrArg some (by kernel_rfl))⟩
  t0 := Try.underlying0
  a0 := Try.isAgg0
  z0 := Try.sizeOf0
  v0 := Try.zeroValue0
  t24 := Try.underlying90
  a24 := Try.isAgg90
  z24 := Try.sizeOf90
  v24 := Try.zeroValue90
  t26 := Try.underlying9
  a26 := Try.isAgg9
  z26 := Try.sizeOf9
  v26 := Try.zeroValue9
  t28 := Try.underlying185
  a28 := Try.isAgg185
  z28 := Try.sizeOf185
  v28 := Try.zeroValue185
  i26 := by kernel_rfl }
def Try.sort131_ren : Go.Shelf.Ren := ⟨fun | 6 => 131 | 8 => 139 | 9 => 138 | 19 => 152 | 20 => 153 | 21 => 143 | 22 => 144 | 23 => 145 | 24 => 146 | 25 => 147 | 26 => 148 | 27 => 149 | 28 => 150 | 29 => 151 | 36 => 159 | 31 => 160 | 32 => 161 | 37 => 162 | 38 => 163 | 39 => 164 | 41 => 165 | n => n, fun | 27 => 90 | 29 => 9 | 3 => 3 | 32 => 235 | 26 => 90 | 0 => 0 | 44 => 251 | 46 => 133 | 4 => 4 | 36 => 244 | 35 => 243 | 41 => 148 | 5 => 5 | 9 => 9 | 53 => 256 | 57 => 260 | 63 => 262 | 64 => 263 | n => n, fun | n => n⟩
theorem Try.sort131 : Go.Proofs.SlLaysM.n6 Try.prog Try.sort131_ren := {
  mixed := by kernel_rfl
  f6 := ⟨Try.f131.name, by decide, Try.func131.trans (congrArg some (by kernel_rfl))⟩
  f8 := Try.func139.trans (congrArg some (by kernel_rfl))
  f9 := ⟨Try.f138.name, by decide, Try.func138.trans (congrArg some (by kernel_rfl))⟩
  f19 := Try.func152.trans (congrArg some (by kernel_rfl))
  f20 := Try.func153.trans (congrArg some (by kernel_rfl))
  f21 := ⟨Try.f143.name, by decide, Try.func143.trans (congrArg some (by kernel_rfl))⟩
  f22 := ⟨Try.f144.name, by decide, Try.func144.trans (congrArg some (by kernel_rfl))⟩
  f23 := ⟨Try.f145.name, by decide, Try.func145.trans (congrArg some (by kernel_rfl))⟩
  f24 := ⟨Try.f146.name, by decide, Try.func146.trans (congrArg some (by kernel_rfl))⟩
  f25 := ⟨Try.f147.name, by decide, Try.func147.trans (congrArg some (by kernel_rfl))⟩
  f26 := ⟨Try.f148.name, by decide, Try.func148.trans (congrArg some (by kernel_rfl))⟩
  f27 := ⟨Try.f149.name, by decide, Try.func149.trans (congrArg some (by kernel_rfl))⟩
  f28 := ⟨Try.f150.name, by decide, Try.func150.trans (congrArg some (by kernel_rfl))⟩
  f29 := ⟨Try.f151.name, by decide, Try.func151.trans (congrArg some (by kernel_rfl))⟩
  f31 := Try.func160.trans (congrArg some (by kernel_rfl))
  f32 := Try.func161.trans (congrArg some (by kernel_rfl))
  f36 := ⟨Try.f159.name, by decide, Try.func159.trans (congrArg some (by kernel_rfl))⟩
  f37 := ⟨Try.f162.name, by decide, Try.func162.trans (congrArg some (by kernel_rfl))⟩
  f38 := ⟨Try.f163.name, by decide, Try.func163.trans (congrArg some (by kernel_rfl))⟩
  f39 := ⟨Try.f164.name, by decide, Try.func164.trans (congrArg some (by kernel_rfl))⟩
  f41 := ⟨Try.f165.name, by decide, Try.func165.trans (congrArg some (by kernel_rfl))⟩
  t0 := Try.underlying0
  a0 := Try.isAgg0
  z0 := Try.sizeOf0
  v0 := Try.zeroValue0
  t3 := Try.underlying3
  a3 := Try.isAgg3
  z3 := Try.sizeOf3
  v3 := Try.zeroValue3
  t4 := Try.underlying4
  a4 := Try.isAgg4
  z4 := Try.sizeOf4
  v4 := Try.zeroValue4
  t5 := Try.underlying5
  a5 := Try.isAgg5
  z5 := Try.sizeOf5
  v5 := Try.zeroValue5
  t9 := Try.underlying9
  a9 := Try.isAgg9
  z9 := Try.sizeOf9
  v9 := Try.zeroValue9
  t26 := Try.underlying90
  a26 := Try.isAgg90
  z26 := Try.sizeOf90
  v26 := Try.zeroValue90
  t27 := Try.underlying90
  a27 := Try.isAgg90
  z27 := Try.sizeOf90
  v27 := Try.zeroValue90
  t29 := Try.underlying9
  a29 := Try.isAgg9
  z29 := Try.sizeOf9
  v29 := Try.zeroValue9
  t32 := Try.underlying235
  a32 := Try.isAgg235
  z32 := Try.sizeOf235
  v32 := Try.zeroValue235
  t35 := Try.underlying243
  a35 := Try.isAgg243
  z35 := Try.sizeOf243
  v35 := Try.zeroValue243
  t36 := Try.underlying244
  a36 := Try.isAgg244
  z36 := Try.sizeOf244
  v36 := Try.zeroValue244
  t41 := Try.underlying148
  a41 := Try.isAgg148
  z41 := Try.sizeOf148
  v41 := Try.zeroValue148
  t44 := Try.underlying251
  a44 := Try.isAgg251
  z44 := Try.sizeOf251
  v44 := Try.zeroValue251
  t46 := Try.underlying133
  a46 := Try.isAgg133
  z46 := Try.sizeOf133
  v46 := Try.zeroValue133
  t53 := Try.underlying256
  a53 := Try.isAgg256
  z53 := Try.sizeOf256
  v53 := Try.zeroValue256
  t57 := Try.underlying260
  a57 := Try.isAgg260
  z57 := Try.sizeOf260
  v57 := Try.zeroValue260
  t63 := Try.underlying262
  a63 := Try.isAgg262
  z63 := Try.sizeOf262
  v63 := Try.zeroValue262
  t64 := Try.underlying263
  a64 := Try.isAgg263
  z64 := Try.sizeOf263
  v64 := Try.zeroValue263 }
end Go.Proofs

/- expr.collect (100). -/
namespace Go.Proofs.Ytekhoanjpnjaeaa
open Go.RowKit Go.Maps

def CollSaid (d : Nat) : Prop := ∀ (S : Nat → Prop) (t : Ex) (b off : Nat) (w : World) (b1 b2 : Nat) (X Y : List ByteArray), RepAt .u8 S w d t b off → SetMap w b1 X → SetMap w b2 Y → b1 ≠ b2 → (∀ x, S x → x ≠ b1 ∧ x ≠ b2) → b ≠ b1 → b ≠ b2 →
    X.length + (nms false t).length ≤ 1000000 → Y.length + (nms true t).length ≤ 1000000 →
    Calls Try.prog 100 #[.pointer (some ⟨b, off, none⟩), .map (some b1), .map (some b2)] w fun r w' => r = .returned (.tuple #[]) ∧ Two w w' b1 b2 ∧ SetMap w' b1 (X ++ nms false t) ∧ SetMap w' b2 (Y ++ nms true t)
theorem RepAt.two {S : Nat → Prop} {w w' : World} {d : Nat} {t : Ex} {b off b1 b2 : Nat} (h : RepAt .u8 S w d t b off) (ht : Two w w' b1 b2) (hS : ∀ x, S x → x ≠ b1 ∧ x ≠ b2) (h1 : b ≠ b1) (h2 : b ≠ b2) : RepAt .u8 S w' d t b off :=
  h.mono (fun _ h => h) (fun x _ _ hx hc => ht.cell hc (hS x hx).1 (hS x hx).2) (fun _ _ _ hc => ht.cell hc h1 h2) (Nat.le_refl _)
theorem nmsL_le (k : Bool) : ∀ (l : List Ex) (i : Nat), (nmsL k (l.take i)).length ≤ (nmsL k l).length
  | [], i => by rw [List.take_nil]; exact Nat.le_refl _
  | t :: ts, 0 => Nat.zero_le _
  | t :: ts, i + 1 => by
    rw [List.take_succ_cons, nmsL, nmsL, List.length_append, List.length_append]
    have := nmsL_le k ts i
    omega
theorem sum_le {k : Bool} {t : Ex} {X : List ByteArray} {M i : Nat} (hX : X.length + (nms k t).length ≤ M) (hi : i < t.args.length) : ((X ++ nmsN k t.op t.name) ++ nmsL k (t.args.take i)).length + (nms k t.args[i]).length ≤ M := by
  have h1 := nmsL_le k t.args (i + 1)
  rw [nmsL_take k t.args i hi, List.length_append] at h1
  rw [nms_eq, List.length_append] at hX
  rw [List.length_append, List.length_append]
  omega

set_option maxHeartbeats 2000000 in
set_option maxRecDepth 100000 in
theorem collect_any (d : Nat) : CollSaid d := by
  induction d using Nat.strongRecOn with
  | _ d ih =>
    intro S t b off w b1 b2 X Y h hX hY hb hS hb1 hb2 hXl hYl
    have IH := Lib.hid ih; clear ih
    have HAT := Lib.hid h
    obtain ⟨h0, h1, h2, hf, c, h3, hc⟩ := h
    obtain ⟨a, cap, rfl⟩ := hc.shape
    have hlen := hf.len
    have HNS := Lib.hid hf.name
    have HX := Lib.hid hX; clear hX
    have HY := Lib.hid hY; clear hY
    have HB := Lib.hid hb; clear hb
    have HS := Lib.hid hS; clear hS
    have HB1 := Lib.hid hb1; clear hb1
    have HB2 := Lib.hid hb2; clear hb2
    have HXL := Lib.hid hXl; clear hXl
    have HYL := Lib.hid hYl; clear hYl
    have HNA := Lib.hid (nms_eq false t)
    have HNB := Lib.hid (nms_eq true t)
    clear hc
    have hcases : t.op = 5 ∨ t.op = 6 ∨ t.op = 7 ∨ t.op = 8 ∨ ¬ (5 ≤ t.op ∧ t.op ≤ 8) := by omega
    rcases hcases with h5 | h5 | h5 | h5 | h5
    case' inl =>
      have t5 : (t.op == 5) = true := by simp [h5]
      have HPA := Lib.hid (show nmsN false t.op t.name = [t.name] by unfold nmsN; simp [h5])
      have HPB := Lib.hid (show nmsN true t.op t.name = [] by unfold nmsN; simp [h5])
      clear h5
      obtain ⟨n, D, ho, hn, hD⟩ := HX.out
      have HO := Lib.hid ho
      have HD := Lib.hid (And.intro hn hD)
      have hnm : n < maxLen := by have := HXL.out; unfold maxLen; omega
      have HK := Lib.hid (show keyOf Try.prog 9 (.string t.name) = some (keyS t.name) from WideMaps.keyOf_string_mk Try.underlying9 HNS.out)
      have HW := Lib.hid (show plainElem (H := Unit) Try.prog 4 (.bool true) = some (boolD true, []) from plainElem_bool Try.underlying4 true)
      clear ho hn hD
      go_enter Try.func100, Try.ntmps100
      go_wp2_with (at_mapUpdate; refine wpList_mapUpdate_own _ rfl _ _ _ 181 rfl 9 4 lawS Try.underlying181 _ b1 n D rfl HO.out hnm _ _ _ rfl rfl HK.out _ [] HW.out ?_; intro w1 hown1 hgrow1; have g3 : w1.cell? ⟨b, off + 3, none⟩ = some (.slice a t.args.length cap) := ((Two.of_grown hgrow1 (b2 := b2) (Or.inl rfl)).cell h3 HB1.out HB2.out))
      have HT1 := Lib.hid (Two.of_grown hgrow1 (b2 := b2) (Or.inl rfl))
      have HX1 := Lib.hid (show SetMap w1 b1 (X ++ nmsN false t.op t.name) by rw [HPA.out]; exact SetMap.put HO.out.isMap HD.out.1 HD.out.2 hown1)
      have HY1 := Lib.hid (show SetMap w1 b2 (Y ++ nmsN true t.op t.name) by rw [HPB.out, List.append_nil]; exact HY.out.keep (hgrow1.block _ HY.out.lt (fun e => by cases e; exact HB.out rfl)))
      clear hown1 hgrow1 hnm
      go_wp2_with fail
    case' inr.inl =>
      have t5 : (t.op == 5) = false := by simp [h5]
      have t6 : (t.op == 6) = true := by simp [h5]
      have HPA := Lib.hid (show nmsN false t.op t.name = [] by unfold nmsN; simp [h5])
      have HPB := Lib.hid (show nmsN true t.op t.name = [t.name] by unfold nmsN; simp [h5])
    case' inr.inr.inl =>
      have t5 : (t.op == 5) = false := by simp [h5]
      have t6 : (t.op == 6) = false := by simp [h5]
      have t7 : (t.op == 7) = true := by simp [h5]
      have HPA := Lib.hid (show nmsN false t.op t.name = [] by unfold nmsN; simp [h5])
      have HPB := Lib.hid (show nmsN true t.op t.name = [t.name] by unfold nmsN; simp [h5])
    case' inr.inr.inr.inl =>
      have t5 : (t.op == 5) = false := by simp [h5]
      have t6 : (t.op == 6) = false := by simp [h5]
      have t7 : (t.op == 7) = false := by simp [h5]
      have t8 : (t.op == 8) = true := by simp [h5]
      have HPA := Lib.hid (show nmsN false t.op t.name = [] by unfold nmsN; simp [h5])
      have HPB := Lib.hid (show nmsN true t.op t.name = [t.name] by unfold nmsN; simp [h5])
    case' inr.inr.inr.inr =>
      have t5 : (t.op == 5) = false := by simp; omega
      have t6 : (t.op == 6) = false := by simp; omega
      have t7 : (t.op == 7) = false := by simp; omega
      have t8 : (t.op == 8) = false := by simp; omega
      have HX1 := Lib.hid (show SetMap w b1 (X ++ nmsN false t.op t.name) by rw [show nmsN false t.op t.name = [] by unfold nmsN; simp; omega, List.append_nil]; exact HX.out)
      have HY1 := Lib.hid (show SetMap w b2 (Y ++ nmsN true t.op t.name) by rw [show nmsN true t.op t.name = [] by unfold nmsN; simp; omega, List.append_nil]; exact HY.out)
      clear h5
      have HT1 := Lib.hid (Two.refl w b1 b2)
      go_enter Try.func100, Try.ntmps100
      go_wp2_with fail
    all_goals try (
      clear h5
      obtain ⟨n, D, ho, hn, hD⟩ := HY.out
      have HO := Lib.hid ho
      have HD := Lib.hid (And.intro hn hD)
      have hnm : n < maxLen := by have := HYL.out; unfold maxLen; omega
      have HK := Lib.hid (show keyOf Try.prog 9 (.string t.name) = some (keyS t.name) from WideMaps.keyOf_string_mk Try.underlying9 HNS.out)
      have HW := Lib.hid (show plainElem (H := Unit) Try.prog 4 (.bool true) = some (boolD true, []) from plainElem_bool Try.underlying4 true)
      clear ho hn hD
      go_enter Try.func100, Try.ntmps100
      go_wp2_with (at_mapUpdate; refine wpList_mapUpdate_own _ rfl _ _ _ 181 rfl 9 4 lawS Try.underlying181 _ b2 n D rfl HO.out hnm _ _ _ rfl rfl HK.out _ [] HW.out ?_; intro w1 hown1 hgrow1; have g3 : w1.cell? ⟨b, off + 3, none⟩ = some (.slice a t.args.length cap) := ((Two.of_grown hgrow1 (b1 := b1) (Or.inr rfl)).cell h3 HB1.out HB2.out))
      have HT1 := Lib.hid (Two.of_grown hgrow1 (b1 := b1) (Or.inr rfl))
      have HY1 := Lib.hid (show SetMap w1 b2 (Y ++ nmsN true t.op t.name) by rw [HPB.out]; exact SetMap.put HO.out.isMap HD.out.1 HD.out.2 hown1)
      have HX1 := Lib.hid (show SetMap w1 b1 (X ++ nmsN false t.op t.name) by rw [HPA.out, List.append_nil]; exact HX.out.keep (hgrow1.block _ HX.out.lt (fun e => by cases e; exact HB.out rfl)))
      clear hown1 hgrow1 hnm
      go_wp2_with fail)
    all_goals
      clear h0 h1 h2 h3
      try clear g3
      go_loopw [32] (fun i wr => ∃ k : Nat, k ≤ t.args.length ∧ i = .int .i64 k ∧ Hid (Two w wr b1 b2) ∧ Hid (SetMap wr b1 ((X ++ nmsN false t.op t.name) ++ nmsL false (t.args.take k))) ∧ Hid (SetMap wr b2 ((Y ++ nmsN true t.op t.name) ++ nmsL true (t.args.take k)))) (fun i _ => t.args.length - (intOf i).toNat)
      case atStart => exact ⟨0, Nat.zero_le _, rfl, HT1, Lib.hid (by rw [List.take_zero, nmsL, List.append_nil]; exact HX1.out), Lib.hid (by rw [List.take_zero, nmsL, List.append_nil]; exact HY1.out)⟩
      case round =>
        obtain ⟨k, hk, rfl, HT, HXk, HYk⟩ := hrel
        by_cases hlt : k < t.args.length
        · have hne : t.args ≠ [] := by intro e; rw [e] at hlt; simp at hlt
          have hat := HAT.out.two HT.out HS.out HB1.out HB2.out
          obtain ⟨_, _, _, _, c', g3, hc'⟩ := hat
          obtain ⟨_, _, e'⟩ := hc'.shape
          subst e'
          obtain ⟨d', b', off', rfl, rfl, _, hSb, hat'⟩ := hc'.at hne
          have HKT := Lib.hid (hat' k hlt)
          have HSB := Lib.hid hSb
          have HTA := Lib.hid (nmsL_take false t.args k hlt)
          have HTB := Lib.hid (nmsL_take true t.args k hlt)
          have HLA := Lib.hid (sum_le HXL.out hlt)
          have HLB := Lib.hid (sum_le HYL.out hlt)
          clear hat' hc' hSb hne
          go_wp2_with fail
          refine (IH.out d' (by omega) S t.args[k] b' (off' + k * 4) wr b1 b2 _ _ HKT.out HXk.out HYk.out HB.out HS.out (HS.out _ HSB.out).1 (HS.out _ HSB.out).2 HLA.out HLB.out).mono ?_
          rintro r w' ⟨rfl, ht', hx', hy'⟩
          rw [List.append_assoc, ← HTA.out] at hx'
          rw [List.append_assoc, ← HTB.out] at hy'
          have HT' := Lib.hid (HT.out.trans ht')
          have HX' := Lib.hid hx'
          have HY' := Lib.hid hy'
          clear ht' hx' hy'
          go_wp2_with fail
          go_roundw
          case rel => exact ⟨k + 1, by omega, by go_num, HT', HX', HY'⟩
          case measure => simp [intOf]; omega
        · have HKK := Lib.hid (show t.args.take k = t.args from List.take_of_length_le (by omega))
          go_wp2_with fail
          go_end0
          refine ⟨rfl, HT.out, ?_, ?_⟩
          · have := HXk.out; rw [HKK.out] at this; rw [HNA.out, ← List.append_assoc]; exact this
          · have := HYk.out; rw [HKK.out] at this; rw [HNB.out, ← List.append_assoc]; exact this
end Go.Proofs.Ytekhoanjpnjaeaa

/- expr.Reads (54): the sorted names and tables of a tree. -/
namespace Go.Proofs.Ytekhoanjpnjaeaa
open Go.RowKit Go.Maps Go.Sort Go.Shelf

theorem Try.sorts101 (m : Nat) : AnyZ.SortsIn Try.prog Try.sorted101_ren Fence.wide m :=
  ⟨fun blk off cap ss W hH hblk hsz => callsIn_wide.2 (AnyM.slices_Sort_string Try.sort131 blk off cap ss W hH hblk hsz),
   fun p cap W => callsIn_wide.2 (AnyM.slices_Sort_string_none Try.sort131 p cap W)⟩

theorem Try.maps_Keys_102 (mb : Option Nat) (W : World) : CallsIn Fence.wide 5 Try.prog 102 #[.map mb] W fun e w' => e = .returned (.func (.func 132) #[] #[.pointer (some ⟨W.heap.size, 0, none⟩)]) ∧ w' = W.alloc (.cells #[.map mb] 181) :=
  AnyZ.keys_in Try.keys102 Fence.wide 5 trivial rfl mb W

set_option maxHeartbeats 1000000 in
theorem Try.slices_Sorted_keys_101_102 {H : Type} (b nn : Nat) (D0 : DataW H) (R : Value → Option (DataW H × List MemPlace)) (w : World) (hown : w.ownsMap Try.prog 9 R b nn D0) (hmax : Maps.size D0 ≤ maxLen) (hbytes : Maps.size D0 * 16 ≤ 140737488355328) :
    CallsIn Fence.wide 5 Try.prog 101 #[.func (.func 132) #[] #[.pointer (some ⟨w.heap.size, 0, none⟩)]] (w.alloc (.cells #[.map (some b)] 181)) fun e w' => ∃ (v : Value) (ss : List (List UInt8)), e = .returned v ∧ ss.Perm (strKeys D0) ∧
      w'.ownsRow (w.alloc (.cells #[.map (some b)] 181)).heap.size 9 1 v ss.length ((ss.mergeSort (fun x y => decide (x ≤ y))).map encStr) ∧ (v = .slice none 0 0 ↔ ss = []) ∧ Below (w.alloc (.cells #[.map (some b)] 181)).heap.size (w.alloc (.cells #[.map (some b)] 181)) w' := by
  have hbl := hown.lt
  have hseq : SeqGives Fence.wide 2 Try.prog 132 #[.pointer (some ⟨w.heap.size, 0, none⟩)] encStr (fun ss => ss.Perm (strKeys D0)) (Maps.size D0) (w.alloc (.cells #[.map (some b)] 181)) :=
    AnyZ.keys_gives (ρ := Try.keys102_ren) { Try.keys102 with } Fence.wide _ trivial rfl (by omega) w.heap.size b nn D0 _ (by simp) (by simp) (by
      obtain ⟨es, clock, hb, Ft, hs, hD⟩ := hown
      exact ⟨es, clock, (Below.heap_alloc _ _ b hbl).trans hb, Ft, hs, hD⟩)
  exact AnyZ.sorted_in Try.sorted101 Fence.wide 5 trivial trivial trivial trivial rfl (by omega) (Try.sorts101 _) (enters_of Try.func131 (by kernel_rfl) rfl) 132 #[.pointer (some ⟨w.heap.size, 0, none⟩)] trivial (enters_of Try.func132 (by kernel_rfl) rfl) _ _ hmax hbytes _ hseq


theorem sortedN_any {w : World} {b : Nat} {X : List ByteArray} (h : SetMap w b X) (hX : X.length ≤ 1000000) :
    CallsIn Fence.wide 5 Try.prog 101 #[.func (.func 132) #[] #[.pointer (some ⟨w.heap.size, 0, none⟩)]] (w.alloc (.cells #[.map (some b)] 181)) fun e w' => ∃ a c, e = .returned (.slice a (setS X).length c) ∧ Row (fun _ => True) w' 1 (setS X).length (.slice a (setS X).length c) (sV (setS X)) ∧ Below (w.alloc (.cells #[.map (some b)] 181)).heap.size (w.alloc (.cells #[.map (some b)] 181)) w' ∧ (a = none → c = 0) := by
  obtain ⟨n, D, ho, hn, hD⟩ := h
  have hsz : Maps.size D ≤ 1000000 := Nat.le_trans ho.size_le (by omega)
  refine (Try.slices_Sorted_keys_101_102 b n D _ w ho (by unfold maxLen; omega) (by omega)).mono ?_
  rintro e w' ⟨v, ss, rfl, hp, hrow, _, hb⟩
  have he := sorted_keys ho hD hp
  have hl : ss.length = (setS X).length := by have := congrArg List.length he; simpa using this
  rw [he, hl] at hrow
  obtain ⟨a, c, rfl, _⟩ := owns_shape hrow
  refine ⟨a, c, rfl, (Row.of_owns hrow).mono (fun _ _ => trivial) (fun _ _ _ _ h => h), hb, fun ha => ?_⟩
  subst ha
  rcases hrow.2 with ⟨e, _⟩ | ⟨g, cap, cur, e, _⟩
  · injection e
  · injection e with e; cases e

set_option maxRecDepth 100000 in
set_option maxHeartbeats 2000000 in
theorem readsN_any (S : Nat → Prop) (d : Nat) (t : Ex) (c : Value) (w : World) (hf : Flds .u8 t) (hr : RepS .u8 S w d t.args c) (hS : ∀ x, S x → x < w.heap.size) (hA : (nms false t).length ≤ 1000) (hB : (nms true t).length ≤ 1000) :
    Calls Try.prog 54 #[agg .u8 t c] w fun e w' => More w w' ∧ ∃ a1 c1 a2 c2, (a1 = none → c1 = 0) ∧ (a2 = none → c2 = 0) ∧ e = .returned (.tuple #[.slice a1 (setS (nms false t)).length c1, .slice a2 (setS (nms true t)).length c2]) ∧
      Row (fun _ => True) w' 1 (setS (nms false t)).length (.slice a1 (setS (nms false t)).length c1) (sV (setS (nms false t))) ∧ Row (fun _ => True) w' 1 (setS (nms true t)).length (.slice a2 (setS (nms true t)).length c2) (sV (setS (nms true t))) := by
  obtain ⟨a, cap, rfl⟩ := hr.shape
  have hmm := run_makeMap181
  have HF := Lib.hid hf; clear hf
  have HR := Lib.hid hr; clear hr
  have HS := Lib.hid hS; clear hS
  have HA := Lib.hid hA; clear hA
  have HB := Lib.hid hB; clear hB
  unfold agg
  refine (callsIn_wide (n := 6)).1 ?_
  refine callsIn_of_wp Try.func54 rfl trivial ?_ rfl
  simp only [Try.ntmps54, List.size_toArray, List.length_cons, List.length_nil, Nat.reduceAdd, Nat.reduceSub, Array.replicate_succ, Array.replicate_zero, List.push_toArray, List.append_toArray, List.nil_append, List.cons_append]
  gi_wp2_with fail
  have hB3 : Below w.heap.size w (((w.alloc (.cells #[.int .u8 t.op, .string t.name, .int .i64 t.n, .slice a t.args.length cap] 41)).alloc (.map #[] 0)).alloc (.map #[] 0)) := (((Below.refl _ _).alloc (Nat.le_refl _) _).alloc (by simp) _).alloc (by simp; omega) _
  have hx3 : (((w.alloc (.cells #[.int .u8 t.op, .string t.name, .int .i64 t.n, .slice a t.args.length cap] 41)).alloc (.map #[] 0)).alloc (.map #[] 0)).heap[w.heap.size]? = some (.cells #[.int .u8 t.op, .string t.name, .int .i64 t.n, .slice a t.args.length cap] 41) := by
    rw [Below.heap_alloc _ _ _ (by simp; omega), Below.heap_alloc _ _ _ (by simp)]; exact alloc_at _ _ rfl
  have hX3 : SetMap (((w.alloc (.cells #[.int .u8 t.op, .string t.name, .int .i64 t.n, .slice a t.args.length cap] 41)).alloc (.map #[] 0)).alloc (.map #[] 0)) (w.heap.size + 1) [] := by
    have h := SetMap.start (w.alloc (.cells #[.int .u8 t.op, .string t.name, .int .i64 t.n, .slice a t.args.length cap] 41))
    rw [World.size_alloc] at h
    exact h.keep (Below.heap_alloc _ _ _ (by simp))
  have hY3 : SetMap (((w.alloc (.cells #[.int .u8 t.op, .string t.name, .int .i64 t.n, .slice a t.args.length cap] 41)).alloc (.map #[] 0)).alloc (.map #[] 0)) (w.heap.size + 1 + 1) [] := by
    have h := SetMap.start ((w.alloc (.cells #[.int .u8 t.op, .string t.name, .int .i64 t.n, .slice a t.args.length cap] 41)).alloc (.map #[] 0))
    rw [World.size_alloc, World.size_alloc] at h
    exact h
  have hsz : w.heap.size + 1 + 1 + 1 = (((w.alloc (.cells #[.int .u8 t.op, .string t.name, .int .i64 t.n, .slice a t.args.length cap] 41)).alloc (.map #[] 0)).alloc (.map #[] 0)).heap.size := by simp
  generalize ((w.alloc (.cells #[.int .u8 t.op, .string t.name, .int .i64 t.n, .slice a t.args.length cap] 41)).alloc (.map #[] 0)).alloc (.map #[] 0) = w3 at *
  have HB3 := Lib.hid hB3
  have HX3 := Lib.hid hX3
  have HY3 := Lib.hid hY3
  have HSZ := Lib.hid hsz
  have HAT := Lib.hid (show RepAt .u8 (fun x => x < w.heap.size) w3 d t w.heap.size 0 from
    ⟨by simp [World.cell?, hx3], by simp [World.cell?, hx3], by simp [World.cell?, hx3], HF.out, _, by simp [World.cell?, hx3], (HR.out.below hB3).mono (fun b hb => HS.out b hb) (fun _ _ _ _ h => h) (Nat.le_refl _)⟩)
  clear hB3 hx3 hX3 hY3 hmm hsz
  refine ⟨trivial, (callsIn_wide.2 (collect_any d (fun x => x < w.heap.size) t w.heap.size 0 w3 (w.heap.size + 1) (w.heap.size + 1 + 1) [] [] HAT.out HX3.out HY3.out (by omega) (fun x hx => ⟨by omega, by omega⟩) (by omega) (by omega) (by have := HA.out; simp; omega) (by have := HB.out; simp; omega))).mono ?_⟩
  rintro e w4 ⟨rfl, ht4, hx4, hy4⟩
  rw [List.nil_append] at hx4 hy4
  have HM4 := Lib.hid (show More w w4 from more_of (HB3.out.trans (ht4.below (by have := HSZ.out; omega) (by omega) (by omega))))
  have HX4 := Lib.hid hx4
  have HY4 := Lib.hid hy4
  clear ht4 hx4 hy4
  gi_wp2_with fail
  refine ⟨trivial, (Try.maps_Keys_102 _ _).mono ?_⟩
  rintro e w' ⟨rfl, hw'⟩
  rw [hw']; clear hw' w'
  gi_wp2_with fail
  refine ⟨trivial, (sortedN_any HX4.out (by have := HA.out; omega)).mono ?_⟩
  rintro e w5 ⟨na, nc, rfl, hr5, hb5, hz5⟩
  have HZ5 := Lib.hid hz5; clear hz5
  have HM45 := Lib.hid (show More w4 w5 from more_trans (World.grownBy_alloc _ _ _) (more_of hb5))
  have HR5 := Lib.hid hr5
  have HY5 := Lib.hid (HY4.out.below HM45.out.below)
  clear hr5 hb5
  gi_wp2_with fail
  refine ⟨trivial, (Try.maps_Keys_102 _ _).mono ?_⟩
  rintro e w' ⟨rfl, hw'⟩
  rw [hw']; clear hw' w'
  gi_wp2_with fail
  refine ⟨trivial, (sortedN_any HY5.out (by have := HB.out; omega)).mono ?_⟩
  rintro e w6 ⟨ta, tc, rfl, hr6, hb6, hz6⟩
  have HZ6 := Lib.hid hz6; clear hz6
  have HM56 := Lib.hid (show More w5 w6 from more_trans (World.grownBy_alloc _ _ _) (more_of hb6))
  have HR6 := Lib.hid hr6
  clear hr6 hb6
  gi_wp2_with fail
  go_ret2
  exact ⟨more_trans HM4.out (more_trans HM45.out HM56.out), na, nc, ta, tc, HZ5.out, HZ6.out, rfl, HR5.out.below HM56.out.below, HR6.out⟩
end Go.Proofs.Ytekhoanjpnjaeaa

/- The contract of rootcauselaw10.awake: it returns true. -/
namespace Go.Proofs.Ytekhoanjpnjaeaa
open Go.RowKit

def tryT : Ex := .node 10 ByteArray.empty 0 [.node 18 ByteArray.empty 0 [.node 1 ByteArray.empty 1 [], .node 1 ByteArray.empty 2 []]]
theorem tryT_fold : foldTop tryT = .node 3 ByteArray.empty 0 [] := by
  simp [tryT, foldTop, Ex.formed, Ex.formedL, opnd, foldT, foldL, foldN, allC, constV, foldV, valsC, binV, unV, litT, Ex.op, Ex.n, Ex.args, tr]

theorem awake_any (w : World) : Calls Try.prog 19 #[] w fun e w' => e = .returned (.bool true) ∧ Below w.heap.size w w' := by
  go_enter Try.func19, Try.ntmps19
  go_wp2_with fail
  refine (binary_any 12 (-7) 2 _).mono ?_
  rw [show binV 12 (-7) 2 = (-3, 0) from by decide +kernel]
  rintro e w' ⟨rfl, rfl⟩
  go_wp2_with fail
  refine (binary_any 13 (-7) 2 _).mono ?_
  rw [show binV 13 (-7) 2 = (-1, 0) from by decide +kernel]
  rintro e w' ⟨rfl, rfl⟩
  go_wp2_with fail
  refine (binary_any 12 7 0 _).mono ?_
  rw [show binV 12 7 0 = (0, 0) from by decide +kernel]
  rintro e w' ⟨rfl, rfl⟩
  go_wp2_with fail
  refine (binary_any 22 2 1 _).mono ?_
  rw [show binV 22 2 1 = (1, 0) from by decide +kernel]
  rintro e w' ⟨rfl, rfl⟩
  go_wp2_with fail
  generalize hw2 : (w.alloc (.cells #[.int .u8 1, .string ⟨#[]⟩, .int .i64 1, .slice none 0 0, .int .u8 1, .string ⟨#[]⟩, .int .i64 2, .slice none 0 0] 41)).alloc (.cells #[.int .u8 18, .string ⟨#[]⟩, .int .i64 0, .slice (some ⟨w.heap.size, 0, none⟩) 2 2] 41) = w2
  have hB2 : Below w.heap.size w w2 := by rw [← hw2]; exact ((Below.refl _ _).alloc (Nat.le_refl _) _).alloc (by simp) _
  have hR : RepS .u8 (fun _ => True) w2 2 tryT.args (.slice (some ⟨w.heap.size + 1, 0, none⟩) 1 1) := by
    have e0 : w2.heap[w.heap.size]? = some (.cells #[.int .u8 1, .string ⟨#[]⟩, .int .i64 1, .slice none 0 0, .int .u8 1, .string ⟨#[]⟩, .int .i64 2, .slice none 0 0] 41) := by
      rw [← hw2, Below.heap_alloc _ _ _ (by simp)]; exact alloc_last _ _
    have e1 : w2.heap[w.heap.size + 1]? = some (.cells #[.int .u8 18, .string ⟨#[]⟩, .int .i64 0, .slice (some ⟨w.heap.size, 0, none⟩) 2 2] 41) := by
      rw [← hw2]; exact alloc_at _ _ (by simp)
    refine RepS.mk rfl trivial (fun i hi => ?_)
    obtain rfl : i = 0 := by simpa [tryT, Ex.args] using hi
    refine ⟨by simp [World.cell?, e1]; rfl, by simp [World.cell?, e1]; rfl, by simp [World.cell?, e1]; rfl, ⟨show (Lit.int .u8 18).wf = true by decide, show (Lit.int .i64 0).wf = true by decide, Nat.zero_le _, show 2 < 4294967296 by decide⟩, _, by simp [World.cell?, e1]; rfl, ?_⟩
    refine RepS.mk rfl trivial (fun i hi => ?_)
    rcases (show i = 0 ∨ i = 1 by have : i < 2 := hi; omega) with rfl | rfl
    · exact ⟨by simp [World.cell?, e0]; rfl, by simp [World.cell?, e0]; rfl, by simp [World.cell?, e0]; rfl, ⟨show (Lit.int .u8 1).wf = true by decide, show (Lit.int .i64 1).wf = true by decide, Nat.zero_le _, show 0 < 4294967296 by decide⟩, .slice none 0 0, by simp [World.cell?, e0], RepS.nil _ _ _⟩
    · exact ⟨by simp [World.cell?, e0]; rfl, by simp [World.cell?, e0]; rfl, by simp [World.cell?, e0]; rfl, ⟨show (Lit.int .u8 1).wf = true by decide, show (Lit.int .i64 2).wf = true by decide, Nat.zero_le _, show 0 < 4294967296 by decide⟩, .slice none 0 0, by simp [World.cell?, e0], RepS.nil _ _ _⟩
  clear hw2
  have HB2 := Lib.hid hB2; clear hB2
  have HR := Lib.hid hR; clear hR
  refine (Fold_any 2 (fun _ => True) tryT (.slice (some ⟨w.heap.size + 1, 0, none⟩) 1 1) w2 ⟨by decide, by decide, Nat.zero_le _, by decide⟩ HR.out).mono ?_
  unfold FoldTopPost
  rw [tryT_fold]
  rintro e w3 ⟨hb3, D, c3, rfl, _, hr3⟩
  obtain ⟨a3, cap3, rfl⟩ := hr3.shape
  have HB3 := Lib.hid (HB2.out.trans (hb3.mono HB2.out.size)); clear hb3 hr3
  simp only [agg, Ex.op, Ex.name, Ex.n, Ex.args]
  go_wp2_with fail
  go_ret
  exact ⟨rfl, HB3.out.alloc HB3.out.size _⟩
end Go.Proofs.Ytekhoanjpnjaeaa

/- Small facts for the walk of ExprDepends. -/
namespace Go.Proofs.Ytekhoanjpnjaeaa
open Go.RowKit
theorem row_lit {W : World} {B n size : Nat} {cs : Array Value} {t : TypeId} {fr : Nat × Nat} (h : W.heap[B]? = some (.cells cs t fr)) (hs : cs.size = n * size) : Row (fun _ => True) W size n (.slice (some ⟨B, 0, none⟩) n n) cs.toList :=
  ⟨by rw [Array.length_toList]; exact hs, _, _, rfl, Nat.le_refl _, fun _ => ⟨B, 0, rfl, trivial, fun i u hi => by
    rw [Nat.zero_add, cell_of_row W B i cs t fr h]
    simpa using hi⟩⟩
theorem tab_push {S : Nat → Prop} {W : World} {bs : List Value} {tb : List (List (Int × Int))} {T : List (Int × Int)} {x : Value} (h : ∀ i (h : i < tb.length), ∃ y, bs[i]? = some y ∧ Row S W 2 tb[i].length y (flat2 tb[i])) (hl : bs.length = tb.length) (hx : Row S W 2 T.length x (flat2 T)) :
    ∀ i (h : i < (tb ++ [T]).length), ∃ y, (bs ++ [x])[i]? = some y ∧ Row S W 2 (tb ++ [T])[i].length y (flat2 (tb ++ [T])[i]) := fun i hi => by
  by_cases hlt : i < tb.length
  · obtain ⟨y, h1, h2⟩ := h i hlt
    refine ⟨y, by rw [List.getElem?_append_left (by omega)]; exact h1, ?_⟩
    rw [List.getElem_append_left hlt]
    exact h2
  · rw [List.length_append, List.length_singleton] at hi
    obtain rfl : i = tb.length := by omega
    refine ⟨x, by rw [← hl, List.getElem?_append_right (Nat.le_refl _), Nat.sub_self]; rfl, ?_⟩
    rw [List.getElem_append_right (Nat.le_refl _)]
    simp only [Nat.sub_self, List.getElem_cons_zero]
    exact hx
theorem owns_nilD {w : World} {B : Nat} {e : TypeId} {n size : Nat} {v : Value} {xs : List Value} (h : w.ownsRow B e size v n xs) : NilD v := fun a n' cap e0 ha => by
  obtain ⟨_, h | ⟨g, c, cur, h, _⟩⟩ := h
  · have h1 := h.1; rw [e0] at h1; injection h1
  · rw [e0] at h; injection h with h1; rw [ha] at h1; cases h1
theorem ones_str (l : List ByteArray) : ∀ u ∈ l.map Value.string, u.oneCell' = true := fun u hu => by obtain ⟨x, _, rfl⟩ := List.mem_map.1 hu; rfl
theorem ones_int (l : List Int) : ∀ u ∈ l.map (Value.int .i64), u.oneCell' = true := fun u hu => by obtain ⟨x, _, rfl⟩ := List.mem_map.1 hu; rfl
theorem wrap_in64 (n : Int) : In64 (IntKind.i64.wrap n) := by
  unfold In64
  rw [IntKind.wrap_i64]
  omega
theorem tab_in {l : List (Int × Int)} (h : ∀ x ∈ l, In64 x.1 ∧ In64 x.2) : ∀ x ∈ ofL l, In64 x.1 ∧ In64 x.2 := fun x hx => h x (mem_of hx)
end Go.Proofs.Ytekhoanjpnjaeaa

/- Small facts for the walk of ExprRandom. -/
namespace Go.Proofs.Ytekhoanjpnjaeaa
open Go.RowKit
def valsR (vn : Int) (j : Nat) : List Int := (List.range j).map fun (i : Nat) => IntKind.i64.wrap ((i : Int) + vn)
theorem valsR_succ (vn : Int) (j : Nat) : valsR vn (j + 1) = valsR vn j ++ [IntKind.i64.wrap ((j : Int) + vn)] := by
  unfold valsR
  rw [List.range_succ, List.map_append]
  rfl
theorem valsR_len (vn : Int) (j : Nat) : (valsR vn j).length = j := by unfold valsR; rw [List.length_map, List.length_range]
theorem valsR_in (vn : Int) (j : Nat) : ∀ v ∈ valsR vn j, In64 v := fun v hv => by
  unfold valsR at hv
  obtain ⟨i, _, rfl⟩ := List.mem_map.1 hv
  exact wrap_in64 _
def tabsR (vn : Int) (m : Nat) : List (List (Int × Int)) := (List.range m).map fun (i : Nat) => ofL [((i : Int), vn)]
theorem tabsR_succ (vn : Int) (m : Nat) : tabsR vn (m + 1) = tabsR vn m ++ [ofL [((m : Int), vn)]] := by
  unfold tabsR
  rw [List.range_succ, List.map_append]
  rfl
theorem tabsR_len (vn : Int) (m : Nat) : (tabsR vn m).length = m := by unfold tabsR; rw [List.length_map, List.length_range]
theorem tabsR_in {vn : Int} {m : Nat} (hn : In64 vn) (hm : m ≤ 1000) : ∀ T ∈ tabsR vn m, (T.length < 4294967296 ∧ Asc T) ∧ ∀ x ∈ T, In64 x.1 ∧ In64 x.2 := fun T hT => by
  unfold tabsR at hT
  obtain ⟨i, hi, rfl⟩ := List.mem_map.1 hT
  rw [List.mem_range] at hi
  refine ⟨⟨Nat.lt_of_le_of_lt (ofL_len _) (by simp), asc_of _⟩, tab_in (fun x hx => ?_)⟩
  rw [List.mem_singleton] at hx
  subst hx
  exact ⟨by unfold In64; dsimp only; omega, hn⟩
/-- The tables of an environment that is being laid: field 3 of its box. -/
structure TabsC (v W : World) (EB : Nat) (cs : Array Value) (bv : Value) (bs : List Value) (tb : List (List (Int × Int))) : Prop where
  g : v.grownBy W (some EB)
  box : W.heap[EB]? = some (.cells (cs.setIfInBounds 3 bv) 97)
  own : W.ownsRow v.heap.size 54 1 bv bs.length bs
  tl : bs.length = tb.length
  tr : ∀ i (h : i < tb.length), ∃ x, bs[i]? = some x ∧ Row (fun b => v.heap.size ≤ b ∧ bv.ownBlock ≠ some b) W 2 tb[i].length x (flat2 tb[i])
section
variable {v W W1 w2 : World} {EB : Nat} {cs : Array Value} {bv nv : Value} {bs : List Value} {tb : List (List (Int × Int))}
theorem TabsC.start (h : v.heap[EB]? = some (.cells (cs.setIfInBounds 3 (.slice none 0 0)) 97)) : TabsC v v EB cs (.slice none 0 0) [] [] :=
  ⟨⟨rfl, rfl, rfl, Nat.le_refl _, fun _ _ _ => rfl⟩, h, World.ownsRow_nil _ _ _ _, rfl, fun i hi => by cases hi⟩
theorem TabsC.more (h : TabsC v W EB cs bv bs tb) (hm : More W W1) : TabsC v W1 EB cs bv bs tb :=
  ⟨grow_trans h.g (grow_more hm), (hm.block (blk_ltD h.box)).trans h.box, owns_keep h.own (fun z hz => hm.block (h.own.lt z hz).2), h.tl, fun i hi => by
    obtain ⟨x, h1, h2⟩ := h.tr i hi
    exact ⟨x, h1, h2.mono (fun _ k => k) (fun b off u _ hc => hm.cell hc)⟩⟩
theorem TabsC.push (h : TabsC v W EB cs bv bs tb) (hx : EB < v.heap.size) {g cap : Nat} {u : Value} {T : List (Int × Int)} (hg : W.grownBy w2 bv.ownBlock) (hnv : nv = .slice (some ⟨g, 0, none⟩) (bs.length + 1) cap) (hat : bv.ownBlock = some g ∨ g = W.heap.size) (ho : w2.ownsRow v.heap.size 54 1 nv (bs.length + 1) (bs ++ [u]))
    (hu : Row (fun b => v.heap.size ≤ b ∧ b < W.heap.size ∧ bv.ownBlock ≠ some b) W 2 T.length u (flat2 T)) : TabsC v (w2.setCell ⟨EB, 3, none⟩ nv) EB cs nv (bs ++ [u]) (tb ++ [T]) := by
  have hk : ∀ b, b ≠ EB → (w2.setCell ⟨EB, 3, none⟩ nv).heap[b]? = w2.heap[b]? := fun b hb => Below.heap_setCell _ _ _ _ hb
  have hown := h.own.lt
  have hb2 : w2.heap[EB]? = some (.cells (cs.setIfInBounds 3 bv) 97) := (hg.block EB (blk_ltD h.box) (fun e => by have := (hown EB e.symm).1; omega)).trans h.box
  have hs := h.g.size
  have hs2 := hg.size
  have hne : ∀ b, b < W.heap.size → bv.ownBlock ≠ some b → nv.ownBlock ≠ some b := fun b hb hn e => by
    rw [hnv] at e
    have e' : g = b := by simpa [Value.ownBlock] using e
    rcases hat with hat | hat
    · exact hn (by rw [hat, e'])
    · omega
  have hcell : ∀ b off x, v.heap.size ≤ b → bv.ownBlock ≠ some b → W.cell? ⟨b, off, none⟩ = some x → (v.heap.size ≤ b ∧ nv.ownBlock ≠ some b) ∧ (w2.setCell ⟨EB, 3, none⟩ nv).cell? ⟨b, off, none⟩ = some x := fun b off x hb hn hc => by
    have hlt := cell_lt hc
    refine ⟨⟨hb, hne b hlt hn⟩, ?_⟩
    rw [World.cell?_of_block (w := W) (a := ⟨b, off, none⟩) ((hk b (by omega)).trans (hg.block b hlt (fun e => hn e.symm)))]
    exact hc
  refine ⟨⟨hg.os.trans h.g.os, hg.tape.trans h.g.tape, hg.output.trans h.g.output, by simp [World.setCell]; omega, fun k hk1 hk2 => ?_⟩, ?_, ?_, by rw [List.length_append, List.length_append, h.tl]; rfl, tab_push (fun i hi => ?_) h.tl (hu.mono2 (by omega) (fun b off x hb hc => hcell b off x hb.1 hb.2.2 hc))⟩
  · have hkx : k ≠ EB := fun e => hk2 (by rw [e])
    exact (hk k hkx).trans ((hg.block k (by omega) (fun e => by have := (hown k e.symm).1; omega)).trans (h.g.block k hk1 hk2))
  · have h3 := setCell_heapD (o := 3) (v := nv) hb2
    rw [h3, Array.setIfInBounds_setIfInBounds]
  · rw [List.length_append, List.length_singleton]
    exact owns_keep ho (fun z hz => hk z (by have := (ho.lt z hz).1; omega))
  · obtain ⟨x, h1, h2⟩ := h.tr i hi
    exact ⟨x, h1, h2.mono2 (by omega) (fun b off y hb hc => hcell b off y hb.1 hb.2 hc)⟩
end
end Go.Proofs.Ytekhoanjpnjaeaa

/- A struct's field that is appended to; a plan's parts and their arities in memory. No program in sight but the numbers of types. -/
namespace Go.Proofs.Ytekhoanjpnjaeaa
open Go.RowKit
/-- Behind v only block XB (a box) and new blocks were written; field f of the box is a row of the call's own, laid behind v. -/
structure FldB (v W : World) (XB : Nat) (cs : Array Value) (ty : TypeId) (f : Nat) (ety size n : Nat) (vv : Value) : Prop where
  g : v.grownBy W (some XB)
  box : W.heap[XB]? = some (.cells (cs.setIfInBounds f vv) ty)
  own : ∃ xs, W.ownsRow v.heap.size ety size vv n xs
section
variable {v W W1 w2 : World} {XB f ety size n : Nat} {cs : Array Value} {ty : TypeId} {vv nv : Value}
theorem FldB.start (h : v.heap[XB]? = some (.cells (cs.setIfInBounds f (.slice none 0 0)) ty)) : FldB v v XB cs ty f ety size 0 (.slice none 0 0) :=
  ⟨⟨rfl, rfl, rfl, Nat.le_refl _, fun _ _ _ => rfl⟩, h, [], ⟨by simp, Or.inl ⟨rfl, rfl⟩⟩⟩
theorem FldB.shape (h : FldB v W XB cs ty f ety size n vv) : ∃ a cap, vv = .slice a n cap ∧ (∀ x, vv.ownBlock = some x → v.heap.size ≤ x ∧ x < W.heap.size) := by
  obtain ⟨xs, ho⟩ := h.own
  exact owns_shape ho
theorem FldB.more (h : FldB v W XB cs ty f ety size n vv) (hm : More W W1) : FldB v W1 XB cs ty f ety size n vv := by
  obtain ⟨xs, ho⟩ := h.own
  exact ⟨grow_trans h.g (grow_more hm), (hm.block (blk_ltD h.box)).trans h.box, xs, owns_keep ho (fun z hz => hm.block (ho.lt z hz).2)⟩
theorem FldB.push (h : FldB v W XB cs ty f ety size n vv) (hx : XB < v.heap.size) {o : Option Nat} (ho' : o = vv.ownBlock) (hg : W.grownBy w2 o) {ys : List Value} (ho : w2.ownsRow v.heap.size ety size nv (n + 1) ys) : FldB v (w2.setCell ⟨XB, f, none⟩ nv) XB cs ty f ety size (n + 1) nv := by
  subst ho'
  obtain ⟨_, _, _, hown⟩ := h.shape
  have hk : ∀ b, b ≠ XB → (w2.setCell ⟨XB, f, none⟩ nv).heap[b]? = w2.heap[b]? := fun b hb => Below.heap_setCell _ _ _ _ hb
  have hb2 : w2.heap[XB]? = some (.cells (cs.setIfInBounds f vv) ty) := (hg.block XB (blk_ltD h.box) (fun e => by have := (hown XB e.symm).1; omega)).trans h.box
  have hs := h.g.size
  have hs2 := hg.size
  refine ⟨⟨hg.os.trans h.g.os, hg.tape.trans h.g.tape, hg.output.trans h.g.output, by simp [World.setCell]; omega, fun k hk1 hk2 => ?_⟩, ?_, ys, owns_keep ho (fun z hz => hk z (by have := (ho.lt z hz).1; omega))⟩
  · have hkx : k ≠ XB := fun e => hk2 (by rw [e])
    exact (hk k hkx).trans ((hg.block k (by omega) (fun e => by have := (hown k e.symm).1; omega)).trans (h.g.block k hk1 hk2))
  · have h3 := setCell_heapD (o := f) (v := nv) hb2
    rw [h3, Array.setIfInBounds_setIfInBounds]
end
/-- The plan of a handler, as it came in. -/
def Code0 : PRd := fun S W l => ∃ p v, l = [.int .u8 p, v] ∧ 0 ≤ p ∧ p ≤ 255 ∧ BytesAt S W v
theorem bytesAt_keep {S S' : Nat → Prop} {W W' : World} {v : Value} (hw : ∀ b off u, S b → W.cell? ⟨b, off, none⟩ = some u → S' b ∧ W'.cell? ⟨b, off, none⟩ = some u) (h : BytesAt S W v) : BytesAt S' W' v := by
  obtain ⟨a, n, c, bs, rfl, hl, hp, hr, hb⟩ := h
  exact ⟨a, n, c, bs, rfl, hl, hp, hr.mono2 (by decide) hw, hb⟩
theorem code0_keep : PRd.Keep Code0 := fun S S' W W' l hw h => by
  obtain ⟨p, v, rfl, h0, h1, hb⟩ := h
  exact ⟨p, v, rfl, h0, h1, bytesAt_keep hw hb⟩
def CodesAt (S : Nat → Prop) (W : World) (v : Value) : Prop := ∃ a n c, v = .slice a n c ∧ PlainZ a n c ∧ RowOf 2 maxLen Code0 S W v
theorem codesAt_keep {S S' : Nat → Prop} {W W' : World} {v : Value} (hw : ∀ b off u, S b → W.cell? ⟨b, off, none⟩ = some u → S' b ∧ W'.cell? ⟨b, off, none⟩ = some u) (h : CodesAt S W v) : CodesAt S' W' v := by
  obtain ⟨a, n, c, rfl, hp, hr⟩ := h
  exact ⟨a, n, c, rfl, hp, hr.keep code0_keep (by decide) hw⟩
/-- The plan of a component: its cells. -/
def PartC : PRd := fun S W l => ∃ p q hv sv, l = [.int .u8 p, .int .u8 q, hv, sv] ∧ (0 ≤ p ∧ p ≤ 255) ∧ (0 ≤ q ∧ q ≤ 255) ∧ CodesAt S W hv ∧ CodesAt S W sv
theorem partC_keep : PRd.Keep PartC := fun S S' W W' l hw h => by
  obtain ⟨p, q, hv, sv, rfl, hp, hq, h1, h2⟩ := h
  exact ⟨p, q, hv, sv, rfl, hp, hq, codesAt_keep hw h1, codesAt_keep hw h2⟩
/-- One to three parts, in blocks before K. -/
structure Parts (K : Nat) (W : World) (pv : Value) (ps : List (List Value)) : Prop where
  row : Row (fun b => b < K) W 4 ps.length pv ps.flatten
  sz : ∀ l ∈ ps, l.length = 4
  ok : ∀ l ∈ ps, PartC (fun b => b < K) W l
  n1 : 1 ≤ ps.length
  n3 : ps.length ≤ 3
theorem Parts.keep {K : Nat} {W W' : World} {pv : Value} {ps : List (List Value)} (h : Parts K W pv ps) (hb : ∀ x, x < K → W'.heap[x]? = W.heap[x]?) : Parts K W' pv ps := by
  have hw : ∀ b off u, b < K → W.cell? ⟨b, off, none⟩ = some u → b < K ∧ W'.cell? ⟨b, off, none⟩ = some u := fun b off u hS hc => ⟨hS, by rw [World.cell?_of_block (w := W) (a := ⟨b, off, none⟩) (hb b hS)]; exact hc⟩
  exact ⟨h.row.mono2 (by decide) hw, h.sz, fun l hl => partC_keep _ _ _ _ _ hw (h.ok l hl), h.n1, h.n3⟩
/-- How many handlers, of the first version or of the second, a part has. -/
def cntH (l : List Value) : Nat := match (l[2]? : Option Value) with | some (Value.slice _ n _) => n | _ => 0
def cntS (l : List Value) : Nat := match (l[3]? : Option Value) with | some (Value.slice _ n _) => n | _ => 0
theorem Parts.at {K : Nat} {W : World} {a : Option Addr} {n c : Nat} {ps : List (List Value)} (h : Parts K W (.slice a n c) ps) : n = ps.length ∧ ∃ b off, a = some ⟨b, off, none⟩ ∧ b < K ∧ ∀ i (hi : i < ps.length), ∃ p q ha hn hc sa sn sc,
    W.cell? ⟨b, off + i * 4, none⟩ = some (.int .u8 p) ∧ W.cell? ⟨b, off + i * 4 + 1, none⟩ = some (.int .u8 q) ∧ W.cell? ⟨b, off + i * 4 + 2, none⟩ = some (.slice ha hn hc) ∧ W.cell? ⟨b, off + i * 4 + 3, none⟩ = some (.slice sa sn sc) ∧
    (0 ≤ p ∧ p ≤ 255) ∧ (0 ≤ q ∧ q ≤ 255) ∧ CodesAt (fun b => b < K) W (.slice ha hn hc) ∧ CodesAt (fun b => b < K) W (.slice sa sn sc) ∧ cntH ps[i] = hn ∧ cntS ps[i] = sn := by
  obtain ⟨_, _, e, _⟩ := h.row.shape
  injection e with _ e2 _
  subst e2
  have hn := h.n1
  obtain ⟨b, off, rfl, _, hS, hc⟩ := h.row.at (by omega)
  refine ⟨rfl, b, off, rfl, hS, fun i hi => ?_⟩
  have hcell : ∀ j u, (ps[i])[j]? = some u → W.cell? ⟨b, off + i * 4 + j, none⟩ = some u := fun j u hj => by
    have hjs : j < 4 := by have := (List.getElem?_eq_some_iff.1 hj).1; rw [h.sz _ (List.getElem_mem hi)] at this; exact this
    have := hc (i * 4 + j) u (by rw [flat_at ps h.sz i hi j hjs]; exact hj)
    rwa [← Nat.add_assoc] at this
  obtain ⟨p, q, hv, sv, hl, hp, hq, h1, h2⟩ := h.ok _ (List.getElem_mem hi)
  obtain ⟨ha, hn', hc', rfl, hx⟩ := h1
  obtain ⟨sa, sn, sc, rfl, hy⟩ := h2
  rw [hl] at hcell ⊢
  exact ⟨p, q, ha, hn', hc', sa, sn, sc, hcell 0 _ rfl, hcell 1 _ rfl, hcell 2 _ rfl, hcell 3 _ rfl, hp, hq, ⟨_, _, _, rfl, hx⟩, ⟨_, _, _, rfl, hy⟩, rfl, rfl⟩
/-- A row of one to three arities, of at least m numbers. -/
def ArOne (FB m : Nat) (W : World) (u : Value) : Prop := ∃ rb rm rc, u = .slice (some ⟨rb, 0, none⟩) rm rc ∧ FB < rb ∧ 1 ≤ rm ∧ rm ≤ 3 ∧ m ≤ rm ∧ ∀ j, j < rm → ∃ x : Nat, W.cell? ⟨rb, j, none⟩ = some (.int .i64 (x : Int)) ∧ x ≤ 2
theorem ArOne.keep {FB m : Nat} {W W' : World} {u : Value} (h : ArOne FB m W u) (hb : ∀ x, FB < x → x < W.heap.size → u.ownBlock = some x → W'.heap[x]? = W.heap[x]?) : ArOne FB m W' u := by
  obtain ⟨rb, rm, rc, rfl, h1, h2, h3, h4, h5⟩ := h
  refine ⟨rb, rm, rc, rfl, h1, h2, h3, h4, fun j hj => ?_⟩
  obtain ⟨x, hx, h6⟩ := h5 j hj
  exact ⟨x, by rw [World.cell?_of_block (w := W) (a := ⟨rb, j, none⟩) (hb rb h1 (cell_lt hx) rfl)]; exact hx, h6⟩
/-- The rows of arities of the first k parts, in a row of the call's own behind block FB. -/
def ArsAt (FB : Nat) (W : World) (av : Value) (ps : List (List Value)) (k : Nat) : Prop :=
  ∃ us : List Value, us.length = k ∧ W.ownsRow (FB + 1) 198 1 av k us ∧ ∀ i (hi : i < us.length) (hp : i < ps.length), ArOne FB (max (min 3 (cntH ps[i])) (min 3 (cntS ps[i]))) W us[i] ∧ ∀ b, us[i].ownBlock = some b → av.ownBlock ≠ some b
section
variable {FB k : Nat} {W W' : World} {av : Value} {ps : List (List Value)}
theorem ArsAt.nil : ArsAt FB W (.slice none 0 0) ps 0 := ⟨[], rfl, ⟨by simp, Or.inl ⟨rfl, rfl⟩⟩, fun i hi => by cases hi⟩
theorem ArsAt.shape (h : ArsAt FB W av ps k) : ∃ a cap, av = .slice a k cap ∧ (∀ x, av.ownBlock = some x → FB + 1 ≤ x ∧ x < W.heap.size) := by
  obtain ⟨us, _, ho, _⟩ := h
  exact owns_shape ho
theorem ArsAt.keep (h : ArsAt FB W av ps k) (hb : ∀ x, FB < x → x < W.heap.size → W'.heap[x]? = W.heap[x]?) : ArsAt FB W' av ps k := by
  obtain ⟨us, hl, ho, hu⟩ := h
  exact ⟨us, hl, owns_keep ho (fun z hz => hb z (by have := (ho.lt z hz).1; omega) (ho.lt z hz).2), fun i hi hp => ⟨(hu i hi hp).1.keep (fun x h1 h2 _ => hb x h1 h2), (hu i hi hp).2⟩⟩
theorem ArsAt.open (h : ArsAt FB W av ps k) : ∃ us, W.ownsRow (FB + 1) 198 1 av k us ∧ ∀ (w2 : World) (g cap H : Nat) (u : Value), w2.ownsRow (FB + 1) 198 1 (.slice (some ⟨g, 0, none⟩) (k + 1) cap) (k + 1) (us ++ [u]) → W.grownBy w2 av.ownBlock → (av.ownBlock = some g ∨ g = H) → W.heap.size ≤ H →
    (∀ hp : k < ps.length, ArOne FB (max (min 3 (cntH ps[k])) (min 3 (cntS ps[k]))) W u) → (∀ b, u.ownBlock = some b → av.ownBlock ≠ some b ∧ b < W.heap.size) → ArsAt FB w2 (.slice (some ⟨g, 0, none⟩) (k + 1) cap) ps (k + 1) := by
  obtain ⟨us, hl, ho, hu⟩ := h
  refine ⟨us, ho, fun w2 g cap H u ho2 hg hat hH h1 h2 => ⟨us ++ [u], by simp [hl], ho2, fun i hi hp => ?_⟩⟩
  have hne : ∀ b, av.ownBlock ≠ some b → b < W.heap.size → (Value.slice (some ⟨g, 0, none⟩) (k + 1) cap).ownBlock ≠ some b := fun b hb hlt e => by
    have e' : g = b := by simpa [Value.ownBlock] using e
    rcases hat with hat | hat
    · exact hb (by rw [hat, e'])
    · omega
  by_cases hik : i < us.length
  · rw [List.getElem_append_left hik]
    obtain ⟨h3, h4⟩ := hu i hik hp
    refine ⟨h3.keep (fun x _ hx hxo => hg.block x hx (fun e => h4 x hxo e.symm)), fun b hb => hne b (h4 b hb) ?_⟩
    obtain ⟨rb, rm, rc, e, _, h5, _, _, h6⟩ := h3
    obtain ⟨x, hx, _⟩ := h6 0 (by omega)
    rw [e] at hb
    have e' : rb = b := by simpa [Value.ownBlock] using hb
    rw [← e']
    exact cell_lt hx
  · have hi2 : i = us.length := by simp at hi; omega
    subst hi2
    rw [List.getElem_append_right (Nat.le_refl _)]
    simp only [Nat.sub_self, List.getElem_cons_zero]
    subst hl
    exact ⟨(h1 hp).keep (fun x _ hx hxo => hg.block x hx (fun e => (h2 x hxo).1 e.symm)), fun b hb => hne b (h2 b hb).1 (h2 b hb).2⟩
end
theorem arL_rng (n2 n3 : Nat) (x2 x3 : Nat → Int) : ∀ j, ∀ x ∈ arL n2 n3 x2 x3 j, 0 ≤ x ∧ x ≤ 2
  | 0, x, h => absurd h List.not_mem_nil
  | j + 1, x, h => by
    rcases List.mem_append.1 h with h | h
    · exact arL_rng n2 n3 x2 x3 j x h
    · have h1 := Int.emod_nonneg (x2 j) (show (3 : Int) ≠ 0 by omega)
      have h2 := Int.emod_lt_of_pos (x2 j) (show (0 : Int) < 3 by omega)
      have h3 := Int.emod_nonneg (x3 j) (show (3 : Int) ≠ 0 by omega)
      have h4 := Int.emod_lt_of_pos (x3 j) (show (0 : Int) < 3 by omega)
      split at h
      · rw [List.mem_singleton] at h; omega
      · split at h
        · rw [List.mem_singleton] at h; omega
        · split at h
          · rw [List.mem_singleton] at h; omega
          · exact absurd h List.not_mem_nil
theorem arL_cnt (n2 n3 : Nat) (x2 x3 : Nat → Int) : 1 ≤ (arL n2 n3 x2 x3 3).length ∧ (arL n2 n3 x2 x3 3).length ≤ 3 ∧ max (min 3 n2) (min 3 n3) ≤ (arL n2 n3 x2 x3 3).length := by
  have h3 := arL_le n2 n3 x2 x3 3
  have h4 : ∀ j, (arL n2 n3 x2 x3 (j + 1)).length = (arL n2 n3 x2 x3 j).length + (if j < n2 ∨ j = 0 ∨ j < n3 then 1 else 0) := fun j => by
    show (arL n2 n3 x2 x3 j ++ _).length = _
    rw [List.length_append]
    congr 1
    by_cases a1 : j < n2
    · simp [a1]
    · by_cases a2 : j = 0
      · subst a2
        simp [a1]
      · by_cases a3 : j < n3
        · simp [a1, a2, a3]
        · simp [a1, a2, a3]
  have h0 : (arL n2 n3 x2 x3 0).length = 0 := rfl
  have e1 := h4 0
  have e2 := h4 1
  have e3 := h4 2
  simp only [Nat.zero_add, true_or, or_true, if_true] at e1
  have k1 : (arL n2 n3 x2 x3 1).length = 1 := by rw [e1]; omega
  have k2 : (arL n2 n3 x2 x3 2).length = 1 + (if 1 < n2 ∨ 1 = 0 ∨ 1 < n3 then 1 else 0) := e2.trans (by rw [k1])
  have k3 : (arL n2 n3 x2 x3 3).length = 1 + (if 1 < n2 ∨ 1 = 0 ∨ 1 < n3 then 1 else 0) + (if 2 < n2 ∨ 2 = 0 ∨ 2 < n3 then 1 else 0) := e3.trans (by rw [k2])
  refine ⟨by omega, h3, ?_⟩
  rw [k3]
  split <;> split <;> omega
/-- What arity leaves is such a row. -/
theorem ar_one {FB B n2 n3 : Nat} {x2 x3 : Nat → Int} {W : World} {v : Value} (hB : FB < B) (h : W.ownsRow B 3 1 v (arL n2 n3 x2 x3 3).length (iV (arL n2 n3 x2 x3 3))) : ArOne FB (max (min 3 n2) (min 3 n3)) W v := by
  obtain ⟨h1, h2, h3⟩ := arL_cnt n2 n3 x2 x3
  have hr := arL_rng n2 n3 x2 x3 3
  generalize arL n2 n3 x2 x3 3 = l at *
  have hc : ∀ j (hj : j < l.length), (iV l)[j]? = some (.int .i64 l[j]) := fun j hj => by unfold iV; simp [hj]
  obtain ⟨g, cap, hv, hg, _⟩ := owns_cell h (hc 0 (by omega))
  refine ⟨g, _, cap, hv, by omega, h1, h2, h3, fun j hj => ?_⟩
  obtain ⟨g', cap', hv', _, hx⟩ := owns_cell h (hc j hj)
  rw [hv] at hv'
  injection hv' with e1 _ _
  injection e1 with e1
  injection e1 with e1
  subst e1
  have h5 := hr _ (List.getElem_mem hj)
  exact ⟨l[j].toNat, by rw [Int.toNat_of_nonneg h5.1]; exact hx, by omega⟩
end Go.Proofs.Ytekhoanjpnjaeaa

