/- Bytes: num.put (122), PutUint (84), Zigzag (123), PutInt (85). -/
import Derived.Test.YtekhoanjpnjaeaaDiff
namespace Go.Proofs.Ytekhoanjpnjaeaa
open Go.RowKit

theorem Try.info5 : (Try.prog.info? 5).map (fun i => (i.zero, i.size, i.bytes)) = some (some (.int .u8 0), 1, 1) := by kernel_rfl
def bV (O : List Int) : List Value := O.map fun k => .int .u8 k
theorem bV_push (O : List Int) (k : Int) : bV (O ++ [k]) = bV O ++ [.int .u8 k] := by simp [bV]
theorem bV_append (O P : List Int) : bV (O ++ P) = bV O ++ bV P := by simp [bV]
theorem bV_length (O : List Int) : (bV O).length = O.length := by simp [bV]
theorem bV_one (O : List Int) : ∀ u ∈ bV O, u.oneCell' = true := fun u hu => by
  obtain ⟨k, _, rfl⟩ := List.mem_map.1 hu; rfl
/-- The encoding of a number. -/
def encU (v : Nat) : List Int := if v < 128 then [(v : Int)] else ((v % 128 + 128 : Nat) : Int) :: encU (v / 128)
termination_by v
theorem encU_lt {v : Nat} (h : v < 128) : encU v = [(v : Int)] := by rw [encU, if_pos h]
theorem encU_ge {v : Nat} (h : ¬ v < 128) : encU v = ((v % 128 + 128 : Nat) : Int) :: encU (v / 128) := by rw [encU, if_neg h]
theorem encU_pos (v : Nat) : 1 ≤ (encU v).length := by
  rw [encU]; split <;> simp
theorem encU_len' (k v : Nat) (h : v < 128 ^ (k + 1)) : (encU v).length ≤ k + 1 := by
  induction k generalizing v with
  | zero => rw [encU_lt (by simpa using h)]; simp
  | succ k ih =>
    by_cases hv : v < 128
    · rw [encU_lt hv]; simp
    · rw [encU_ge hv, List.length_cons]
      have := ih (v / 128) (by rw [Nat.div_lt_iff_lt_mul (by omega)]; rw [Nat.pow_succ] at h; exact h)
      omega
theorem encU_len (v : Nat) (h : v < 18446744073709551616) : (encU v).length ≤ 10 := encU_len' 9 v (by omega)
theorem bits_or_all : ∀ x : Fin 256, bits BinOp.or IntKind.u8 ((x.val : Nat) : Int) 128 = ((x.val % 128 + 128 : Nat) : Int) := by decide +kernel
theorem bits_or128 (m : Nat) : bits BinOp.or IntKind.u8 ((m : Int) % 256) 128 = ((m % 128 + 128 : Nat) : Int) := by
  have h := bits_or_all ⟨m % 256, by omega⟩
  rw [show ((m % 256 : Nat) : Int) = (m : Int) % 256 by omega] at h
  rw [h, show m % 256 % 128 = m % 128 by omega]
theorem byt_app {B : Nat} {w wr w2 : World} {O : List Int} {k : Int} {oa : Option Addr} {ocap g cap : Nat} {ob : Obj} (hb : Below B w wr) (hB : B ≤ w.heap.size) (hO : wr.ownsRow B 5 1 (.slice oa O.length ocap) O.length (bV O))
    (hgrow : (wr.alloc ob).grownBy w2 (Value.slice oa O.length ocap).ownBlock) (hown : w2.ownsRow B 5 1 (.slice (some ⟨g, 0, none⟩) (O.length + 1) cap) (O.length + 1) (bV O ++ [.int .u8 k])) :
    Below B w w2 ∧ w2.ownsRow B 5 1 (.slice (some ⟨g, 0, none⟩) (O.length + 1) cap) (O ++ [k]).length (bV (O ++ [k])) := by
  obtain ⟨_, _, _, hoo⟩ := owns_shape hO
  have hs : B ≤ wr.heap.size := Nat.le_trans hB hb.size
  refine ⟨(hb.alloc hs ob).grown hgrow (by rw [World.size_alloc]; exact Nat.le_succ_of_le hs) (fun y hy => (hoo y hy).1), ?_⟩
  rw [bV_push, List.length_append]; exact hown

set_option maxRecDepth 100000 in
set_option maxHeartbeats 400000 in
theorem nput_any (l : List Int) (v : Value) (u B : Nat) (w : World) (hu : u < 18446744073709551616) (hl : l.length < 4294960000) (hB : B ≤ w.heap.size) (h : w.ownsRow B 5 1 v l.length (bV l)) :
    Calls Try.prog 122 #[v, .int .u64 u] w fun e w' => Below B w w' ∧ ∃ v', e = .returned v' ∧ w'.ownsRow B 5 1 v' (l ++ encU u).length (bV (l ++ encU u)) := by
  obtain ⟨i0, hi0, hz0, hz1, hz2⟩ := info_parts Try.info5
  have HO := Lib.hid h; clear h
  go_enter Try.func122, Try.ntmps122
  go_wp2_with fail
  go_loopw [0, 1] (fun p n wr => ∃ (m : Nat) (O : List Int), n = .int .u64 m ∧ m ≤ u ∧ Hid (O ++ encU m = l ++ encU u) ∧ Hid (Below B w wr) ∧ Hid (wr.ownsRow B 5 1 p O.length (bV O))) (fun _ n _ => (intOf n).toNat)
  case atStart => exact ⟨u, l, rfl, Nat.le_refl _, Lib.hid rfl, Lib.hid (Below.refl _ _), HO⟩
  case round =>
    obtain ⟨m, O, rfl, hmu, HE, HB, HOW⟩ := hrel
    obtain ⟨oa, ocap, rfl, hoo⟩ := owns_shape HOW.out
    have hbs : B ≤ wr.heap.size := Nat.le_trans hB HB.out.size
    have hOl : O.length + 1 ≤ l.length + 12 := by
      have h1 := congrArg List.length HE.out
      rw [List.length_append, List.length_append] at h1
      have h2 := encU_len u hu
      have h3 := encU_pos m
      omega
    have hm1 : O.length + 1 ≤ maxLen := by unfold maxLen; omega
    have hm2 : (O.length + 1) * 1 ≤ 140737488355328 := by omega
    by_cases hm : m < 128
    · have t1 : decide (128 ≤ (m : Int)) = false := by simp; omega
      have HD := Lib.hid (show O ++ [(m : Int)] = l ++ encU u by rw [← HE.out, encU_lt hm])
      go_wp2_with (at_builtin; refine wpList_append_lies _ rfl _ _ _ rfl B 5 i0 _ 1 1 Try.underlying80 hi0 hz0 hz1 hz2 rfl (by omega) (.slice oa O.length ocap) O.length (bV O) rfl (HOW.out.alloc _) ⟨wr.heap.size, 0, none⟩ 1 1 [.int .u8 m] rfl rfl (World.news_of_block (cs := #[.int .u8 m]) (t := 5) (fr := (0, 0)) (heap_alloc_new _ _)) (by simp [Value.oneCell']) (by omega) hm1 hm2 (Nat.le_trans hbs (by rw [World.size_alloc]; exact Nat.le_succ _)) _ rfl ?_; intro gg2 cap2 w2 hown2 hgrow2 hat2 hlt2)
      obtain ⟨hb3, ho3⟩ := byt_app HB.out hB HOW.out hgrow2 hown2
      have HB3 := Lib.hid hb3
      have HO3 := Lib.hid ho3
      clear hown2 hgrow2 hat2 hlt2 hb3 ho3
      go_wp2_with fail
      go_ret
      exact ⟨HB3.out, _, rfl, by rw [← HD.out]; exact HO3.out⟩
    · have t1 : decide (128 ≤ (m : Int)) = true := by simp; omega
      have HD := Lib.hid (show (O ++ [bits BinOp.or IntKind.u8 ((m : Int) % 256) 128]) ++ encU (m / 128) = l ++ encU u by rw [← HE.out, encU_ge hm, bits_or128]; simp)
      go_wp2_with (at_builtin; refine wpList_append_lies _ rfl _ _ _ rfl B 5 i0 _ 1 1 Try.underlying80 hi0 hz0 hz1 hz2 rfl (by omega) (.slice oa O.length ocap) O.length (bV O) rfl (HOW.out.alloc _) ⟨wr.heap.size, 0, none⟩ 1 1 [.int .u8 (bits BinOp.or IntKind.u8 ((m : Int) % 256) 128)] rfl rfl (World.news_of_block (cs := #[.int .u8 (bits BinOp.or IntKind.u8 ((m : Int) % 256) 128)]) (t := 5) (fr := (0, 0)) (heap_alloc_new _ _)) (by simp [Value.oneCell']) (by omega) hm1 hm2 (Nat.le_trans hbs (by rw [World.size_alloc]; exact Nat.le_succ _)) _ rfl ?_; intro gg2 cap2 w2 hown2 hgrow2 hat2 hlt2)
      obtain ⟨hb3, ho3⟩ := byt_app HB.out hB HOW.out hgrow2 hown2
      have HB3 := Lib.hid hb3
      have HO3 := Lib.hid ho3
      clear hown2 hgrow2 hat2 hlt2 hb3 ho3
      go_wp2_with fail
      go_roundw
      case rel => exact ⟨m / 128, O ++ [bits BinOp.or IntKind.u8 ((m : Int) % 256) 128], by go_num, by omega, HD, HB3, HO3⟩
      case measure => simp [intOf]; omega
end Go.Proofs.Ytekhoanjpnjaeaa
