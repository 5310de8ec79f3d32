/- The contract of ref10.distinct. -/
import Derived.Test.YtekhoanjpnjaeaaConv
import Derived.Test.YtekhoanjpnjaeaaRow
namespace Go.Proofs.Ytekhoanjpnjaeaa
open Go.RowKit

theorem Try.info178 : (Try.prog.info? 178).map (fun i => (i.zero, i.size, i.bytes)) = some (some (.agg #[.int .i64 0, .int .i64 0]), 2, 16) := by kernel_rfl

set_option maxRecDepth 100000 in
theorem distinct_any (S : Nat → Prop) (l : List (Int × Int)) (v : Value) (w : World) (hl : l.length < 4294967296) (h : Row S w 2 l.length v (flat2 l)) :
    Calls Try.prog 129 #[v] w fun e w' => Below w.heap.size w w' ∧ ∃ v', e = .returned v' ∧ Row (fun x => w.heap.size ≤ x) w' 2 (distL l).length v' (flat2 (distL l)) := by
  obtain ⟨a, cap, rfl, hcap⟩ := h.shape
  have HR := Lib.hid h; clear h
  obtain ⟨i0, hi0, hz0, hz1, hz2⟩ := info_parts Try.info178
  go_enter Try.func129, Try.ntmps129
  go_wp2_with fail
  go_loopw [3, 11] (fun o i wr => ∃ (k : Nat) (O : List (Int × Int)), k ≤ l.length ∧ i = .int .i64 k ∧ Hid (Below w.heap.size w wr) ∧ Hid (wr.ownsRow w.heap.size 178 2 o O.length (flat2 O)) ∧ Hid (O ++ distL (l.drop k) = distL l)) (fun _ i _ => l.length - (intOf i).toNat)
  case atStart => exact ⟨0, [], Nat.zero_le _, rfl, Lib.hid (Below.refl _ _), Lib.hid ⟨rfl, Or.inl ⟨rfl, rfl⟩⟩, Lib.hid (by simp)⟩
  case round =>
    obtain ⟨k, O, hk, rfl, HB, HO, HD⟩ := hrel
    obtain ⟨wo, rfl⟩ : ∃ wo : World, wo = wr := ⟨_, rfl⟩
    obtain ⟨ob, ocap, rfl, hoo⟩ := owns_shape HO.out
    have HOO := Lib.hid hoo; clear hoo
    by_cases hlt : k < l.length
    · obtain ⟨b, off, rfl, _, _, hc⟩ := HR.out.at (by omega)
      have HC := Lib.hid hc; clear hc
      have g0 := below_cell HB.out (HC.out _ _ (flat2_get l k hlt).1)
      have g1 := below_cell HB.out (HC.out _ _ (flat2_get l k hlt).2)
      have hb := cell_lt g0
      rw [← Nat.add_assoc] at g1
      have hdr : l.drop k = l[k] :: l.drop (k + 1) := List.drop_eq_getElem_cons hlt
      have HDR := Lib.hid hdr; clear hdr
      generalize hx : l[k] = x at *
      have HX := Lib.hid hx; clear hx
      obtain ⟨xk, xv⟩ := x
      simp only at g0 g1
      have hxb : Below w.heap.size w (wo.alloc (.cells #[.int .i64 xk, .int .i64 xv] 178)) := HB.out.alloc HB.out.size _
      have HXB := Lib.hid hxb; clear hxb
      have hszr := HB.out.size
      rcases (show k + 1 = cap ∨ k + 1 < cap by omega) with hcp | hcp
      all_goals
        go_wp2_with fail
        go_loopw [6, 21] (fun ag j wx => ∃ jn : Nat, jn ≤ l.length - (k + 1) ∧ j = .int .i64 jn ∧ ag = .bool (((l.drop (k + 1)).take jn).any fun y => xk == y.1) ∧ Hid (Below w.heap.size w wx) ∧ Hid (wo.heap.size + 1 ≤ wx.heap.size ∧ Below wo.heap.size wo wx ∧ wx.heap[wo.heap.size]? = some (.cells #[.int .i64 xk, .int .i64 xv] 178))) (fun _ j _ => l.length - (k + 1) - (intOf j).toNat)
        case atStart => exact ⟨0, Nat.zero_le _, rfl, by simp, HXB, Lib.hid ⟨by simp, (Below.refl _ _).alloc (Nat.le_refl _) _, alloc_last _ _⟩⟩
        case round =>
          obtain ⟨jn, hj, rfl, rfl, HBX, HW⟩ := hrel
          have x0 : wr.cell? ⟨wo.heap.size, 0, none⟩ = some (.int .i64 xk) := by simp [World.cell?, HW.out.2.2]
          have x1 : wr.cell? ⟨wo.heap.size, 1, none⟩ = some (.int .i64 xv) := by simp [World.cell?, HW.out.2.2]
          have hso := HW.out.1
          have hso' : wo.heap.size < wr.heap.size := by omega
          by_cases hjl : jn < l.length - (k + 1)
          · have hjd : jn < (l.drop (k + 1)).length := by rw [List.length_drop]; exact hjl
            have hkj : k + 1 + jn < l.length := by omega
            have y0 := below_cell HBX.out (HC.out _ _ (flat2_get l (k + 1 + jn) hkj).1)
            have y1 := below_cell HBX.out (HC.out _ _ (flat2_get l (k + 1 + jn) hkj).2)
            rw [show off + (k + 1 + jn) * 2 = off + (k + 1) * 2 + jn * 2 by omega] at y0
            rw [show off + ((k + 1 + jn) * 2 + 1) = off + (k + 1) * 2 + jn * 2 + 1 by omega] at y1
            have hyb := cell_lt y0
            have HTK := Lib.hid (show (((l.drop (k + 1)).take (jn + 1)).any fun y => xk == y.1) = ((((l.drop (k + 1)).take jn).any fun y => xk == y.1) || (xk == (l[k + 1 + jn]).1)) by
              rw [List.take_succ_eq_append_getElem hjd, List.any_append]; simp)
            generalize l[k + 1 + jn] = y at *
            obtain ⟨yk, yv⟩ := y
            simp only at y0 y1
            have HBX' := Lib.hid (HBX.out.alloc HBX.out.size (.cells #[.int .i64 yk, .int .i64 yv] 178))
            have HW' := Lib.hid (show wo.heap.size + 1 ≤ (wr.alloc (.cells #[.int .i64 yk, .int .i64 yv] 178)).heap.size ∧ Below wo.heap.size wo (wr.alloc (.cells #[.int .i64 yk, .int .i64 yv] 178)) ∧ (wr.alloc (.cells #[.int .i64 yk, .int .i64 yv] 178)).heap[wo.heap.size]? = some (.cells #[.int .i64 xk, .int .i64 xv] 178) from
              ⟨by simp; omega, HW.out.2.1.alloc (by omega) _, by rw [Below.heap_alloc _ _ _ hso']; exact HW.out.2.2⟩)
            generalize hag : (((l.drop (k + 1)).take jn).any fun y => xk == y.1) = A at *
            have HAG := Lib.hid hag; clear hag
            cases A
            all_goals first | (exfalso; omega) | skip
            all_goals
              go_wp2_with fail
              go_roundw
              case rel => exact ⟨jn + 1, by omega, by go_num, by rw [HTK.out]; rfl, HBX', HW'⟩
              case measure => simp [intOf]; omega
          · have hjj : (l.drop (k + 1)).take jn = l.drop (k + 1) := List.take_of_length_le (by rw [List.length_drop]; omega)
            rw [hjj]
            clear hjj
            have hoL : O.length ≤ l.length := by
              have h := congrArg List.length HD.out
              rw [List.length_append] at h
              have h2 := distL_le l
              omega
            have HOW := Lib.hid (owns_keep (w' := wr) HO.out (fun y hy => HW.out.2.1.block y (HOO.out y hy).2))
            generalize hag : ((l.drop (k + 1)).any fun y => xk == y.1) = A at *
            cases A
            · have HDN := Lib.hid (show (O ++ [(xk, xv)]) ++ distL (l.drop (k + 1)) = distL l by
                have := HD.out
                rw [HDR.out, distL] at this
                simp only [hag] at this
                simpa using this)
              clear hag
              have hm1 : O.length + 1 ≤ maxLen := by unfold maxLen; omega
              have hm2 : (O.length + 1) * 16 ≤ 140737488355328 := by omega
              have hbs : w.heap.size ≤ (wr.alloc (.cells #[.int .i64 xk, .int .i64 xv] 178)).heap.size := by rw [World.size_alloc]; omega
              have HON := Lib.hid (owns_keep (w' := wr.alloc (.cells #[.int .i64 xk, .int .i64 xv] 178)) HOW.out (fun y hy => Below.heap_alloc _ _ _ (by have := (HOO.out y hy).2; omega)))
              go_wp2_with (at_builtin; refine wpList_append_lies _ rfl _ _ _ rfl w.heap.size 178 i0 _ 2 16 Try.underlying170 hi0 hz0 hz1 hz2 rfl (by omega) (.slice ob O.length ocap) O.length (flat2 O) rfl HON.out ⟨wr.heap.size, 0, none⟩ 1 1 [.int .i64 xk, .int .i64 xv] rfl rfl (World.news_of_block (cs := #[.int .i64 xk, .int .i64 xv]) (t := 178) (fr := (0, 0)) (heap_alloc_new wr _)) (by simp [Value.oneCell']) (by omega) hm1 hm2 hbs _ rfl ?_; intro gg cap2 w2 hown2 hgrow2 hat2 hlt2)
              have HB2 := Lib.hid ((HBX.out.alloc HBX.out.size (.cells #[.int .i64 xk, .int .i64 xv] 178)).grown hgrow2 hbs (fun y hy => (HOO.out y hy).1))
              have HO2 := Lib.hid (show w2.ownsRow w.heap.size 178 2 (.slice (some ⟨gg, 0, none⟩) (O.length + 1) cap2) (O ++ [(xk, xv)]).length (flat2 (O ++ [(xk, xv)])) by rw [flat2_push, List.length_append]; exact hown2)
              clear hown2 hgrow2 hat2 hlt2
              go_wp2_with fail
              go_roundw
              case rel => exact ⟨k + 1, O ++ [(xk, xv)], by omega, by go_num, HB2, HO2, HDN⟩
              case measure => simp [intOf]; omega
            · have HDN := Lib.hid (show O ++ distL (l.drop (k + 1)) = distL l by
                have := HD.out
                rw [HDR.out, distL] at this
                simpa only [hag, if_true] using this)
              clear hag
              go_wp2_with fail
              go_roundw
              case rel => exact ⟨k + 1, O, by omega, by go_num, HBX, HOW, HDN⟩
              case measure => simp [intOf]; omega
    · have hkk : k = l.length := by omega
      have HDD := Lib.hid (show O = distL l by have := HD.out; rw [hkk, List.drop_length] at this; simpa [distL] using this)
      go_wp2_with fail
      go_ret
      refine ⟨HB.out, _, rfl, ?_⟩
      rw [← HDD.out]
      exact Row.of_owns HO.out
end Go.Proofs.Ytekhoanjpnjaeaa
