/- table.Of (38), over what is known of the library's stable sort. -/
import Derived.Test.YtekhoanjpnjaeaaOf
import Derived.Test.YtekhoanjpnjaeaaDiff
namespace Go.Proofs.Ytekhoanjpnjaeaa
open Go.RowKit Go.Sort

/-- The library's stable sort does its work at up to N entries. -/
def SortSaid (M : Nat) : Prop := ∀ (d : Array (Int × Int)) (B off cap N : Nat) (w : World), d.size = N → N ≤ M → B < w.heap.size → HoldE w B off d →
    Calls Try.prog 77 #[.slice (some ⟨B, off, none⟩) N cap, .func (.func 78) #[] #[]] w fun e w' => e = .returned (.tuple #[]) ∧ w.grownBy w' (some B) ∧ ∃ d', d'.size = N ∧ Stab d.toList d'.toList ∧ Srt d'.toList ∧ HoldE w' B off d'
theorem sort20 : SortSaid 20 := fun d B off cap N w h1 h2 h3 h4 => sort_any d B off cap N w h1 h2 h3 h4
variable {N : Nat}

set_option maxHeartbeats 2000000 in
set_option maxRecDepth 100000 in
theorem of_tab (hs : SortSaid N) (S : Nat → Prop) (l : List (Int × Int)) (v : Value) (w : World) (hlN : l.length ≤ N) (hl : l.length < 1000000) (h : Row S w 2 l.length v (flat2 l)) :
    Calls Try.prog 38 #[v] w fun e w' => Below w.heap.size w w' ∧ ∃ tv, e = .returned (.agg #[tv]) ∧ TabV (fun x => w.heap.size ≤ x) w' (ofL l) tv := by
  have HSORT := Lib.hid hs; clear hs
  obtain ⟨a, cap, rfl, hcap⟩ := h.shape
  have HR := Lib.hid h; clear h
  have hmk := run_make151 l.length (by omega)
  go_enter Try.func38, Try.ntmps38
  go_wp2_with fail
  clear hmk
  go_loopw [14] (fun i wr => ∃ k : Nat, k ≤ l.length ∧ i = .int .i64 k ∧ Hid (OfInv w l k wr)) (fun i _ => l.length - (intOf i).toNat)
  case atStart => exact ⟨0, Nat.zero_le _, rfl, Lib.hid (OfInv.start w l)⟩
  case round =>
    obtain ⟨k, hk, rfl, HI⟩ := hrel
    by_cases hlt : k < l.length
    · obtain ⟨b, off, rfl, _, _, hc⟩ := HR.out.at (by omega)
      have g0 := below_cell HI.out.below (hc _ _ (flat2_get l k hlt).1)
      have g1 := below_cell HI.out.below (hc _ _ (flat2_get l k hlt).2)
      clear hc
      rw [← Nat.add_assoc] at g1
      have HN := Lib.hid (HI.out.step hlt (.cells #[.int .i64 l[k].1, .int .i64 l[k].2] 66))
      obtain ⟨arr, ha, hsz, _⟩ := HI.out.arr
      have c0 : wr.cell? ⟨w.heap.size + 1, k * 2, none⟩ = some arr[k * 2] := by simp [World.cell?, ha]
      have c1 : wr.cell? ⟨w.heap.size + 1, k * 2 + 1, none⟩ = some arr[k * 2 + 1] := by simp [World.cell?, ha]
      have f0 := thaw ha (k * 2)
      have f1 := thaw ha (k * 2 + 1)
      have hBl := cell_lt c0
      clear ha
      generalize arr[k * 2] = v0 at *
      generalize arr[k * 2 + 1] = v1 at *
      clear hsz
      go_wp2_with fail
      go_roundw
      case rel => exact ⟨k + 1, by omega, by go_num, HN⟩
      case measure => simp [intOf]; omega
    · obtain rfl : k = l.length := by omega
      have hs1 := HI.out.size
      go_wp2_with fail
      refine (HSORT.out l.toArray (w.heap.size + 1) 0 l.length l.length wr (by simp) hlN (by omega) HI.out.hold).mono ?_
      rintro e w1 ⟨rfl, hg1, d1, hd1, hst, hsr, hh1⟩
      have HL := Lib.hid (lasts_of hsr hst)
      have HI2 := Lib.hid (show OfInv2 w d1.toList 0 [] w1 from ⟨HI.out.below.grown hg1 HI.out.below.size (fun k e => by cases e; omega), by have := hg1.size; omega, by rw [hg1.block _ (by omega) (by simp)]; exact HI.out.res, ⟨d1, hh1, by simp, rfl, rfl⟩, Nat.zero_le _, rfl⟩)
      have hsl : d1.toList.length = l.length := by simpa using hd1
      generalize d1.toList = s at *
      have HSL := Lib.hid hsl
      clear hg1 hd1 hst hsr hh1 HI hsl
      go_wp2_with fail
      go_loopw [6, 34] (fun lv i wr => ∃ (k : Nat) (O : List (Int × Int)), k ≤ l.length ∧ i = .int .i64 k ∧ lv = .slice (some ⟨w.heap.size + 1, 0, none⟩) O.length l.length ∧ Hid (OfInv2 w s k O wr)) (fun _ i _ => l.length - (intOf i).toNat)
      case atStart => exact ⟨0, [], Nat.zero_le _, rfl, rfl, HI2⟩
      case round =>
        obtain ⟨k, O, hk, rfl, rfl, HI⟩ := hrel
        have hsz := HI.out.size
        by_cases hlt : k < l.length
        · have hks : k < s.length := by have := HSL.out; omega
          obtain ⟨x0, x1⟩ := HI.out.at (Nat.le_refl k) hks
          have hB := cell_lt x0
          have hOk := HI.out.le
          have HSK := Lib.hid (fun (w' : World) (hm : More wr w') (hb : keepB s k = false) => HI.out.skip hks hb hm)
          have HPU := Lib.hid (fun (w' : World) (hm : More wr w') (hb : keepB s k = true) => HI.out.push hks hb hm)
          obtain ⟨v0, v1, c0, c1, f0, f1⟩ := HI.out.spare hks
          by_cases hlast : k + 1 = l.length
          · have t1 : ((k : Int) + 1 == (l.length : Int)) = true := by simp; omega
            have HKB := Lib.hid (show keepB s k = true by unfold keepB; rw [dif_neg (by have := HSL.out; omega)])
            clear hlast
            generalize s[k] = x at *
            go_wp2_with fail
            go_quiet (fail)
            generalize hw2 : (wr.alloc (.cells #[.int .i64 x.1, .int .i64 x.2] 151)).drewN nq = w2
            have hm2 : More wr w2 := by rw [← hw2]; exact grownBy_trans (World.grownBy_alloc _ _ _) (grownBy_drewN _ _ _)
            have hx2 : w2.heap[wr.heap.size]? = some (.cells #[.int .i64 x.1, .int .i64 x.2] 151) := by rw [← hw2]; exact alloc_last _ _
            clear hw2
            have d0 := hm2.cell c0
            have d1 := hm2.cell c1
            have e0 := hm2.frozen hB f0
            have e1 := hm2.frozen hB f1
            have b0 : w2.cell? ⟨wr.heap.size, 0, none⟩ = some (.int .i64 x.1) := by simp [World.cell?, hx2]
            have b1 : w2.cell? ⟨wr.heap.size, 1, none⟩ = some (.int .i64 x.2) := by simp [World.cell?, hx2]
            have hB2 := cell_lt d0
            have HP := Lib.hid ((HPU.out w2 hm2 HKB.out).more (World.grownBy_alloc _ (.cells #[.int .i64 x.1, .int .i64 x.2] 151) _))
            clear hm2 hx2 c0 c1 f0 f1 x0 x1
            go_wp2_with fail
            go_roundw
            case rel => exact ⟨k + 1, O ++ [x], by omega, by go_num, by simp, HP⟩
            case measure => simp [intOf]; omega
          · have t1 : ((k : Int) + 1 == (l.length : Int)) = false := by simp; omega
            have hk1 : k + 1 < s.length := by have := HSL.out; omega
            obtain ⟨y0, y1⟩ := HI.out.at (Nat.le_succ k) hk1
            have hk1' : k + 1 < l.length := by omega
            clear hlast
            have HKB := Lib.hid (show keepB s k = !(s[k + 1].1 == s[k].1) by unfold keepB; rw [dif_pos hk1])
            generalize s[k] = x at *
            generalize s[k + 1] = y at *
            cases hc : (y.1 == x.1) with
            | true =>
              have HC := Lib.hid (show keepB s k = false by rw [HKB.out, hc]; rfl)
              have t2 : (y.1 != x.1) = false := by rw [bne, hc]; rfl
              clear hc
              go_wp2_with fail
              go_quiet (fail)
              go_wp2_with fail
              go_roundw
              case rel => exact ⟨k + 1, O, by omega, by go_num, rfl, Lib.hid (HSK.out _ (grownBy_trans (World.grownBy_alloc _ _ _) (grownBy_drewN _ _ _)) HC.out)⟩
              case measure => simp [intOf]; omega
            | false =>
              have HC := Lib.hid (show keepB s k = true by rw [HKB.out, hc]; rfl)
              have t2 : (y.1 != x.1) = true := by rw [bne, hc]; rfl
              clear hc
              go_wp2_with fail
              go_quiet (fail)
              generalize hw2 : (wr.alloc (.cells #[.int .i64 x.1, .int .i64 x.2] 151)).drewN nq = w2
              have hm2 : More wr w2 := by rw [← hw2]; exact grownBy_trans (World.grownBy_alloc _ _ _) (grownBy_drewN _ _ _)
              have hx2 : w2.heap[wr.heap.size]? = some (.cells #[.int .i64 x.1, .int .i64 x.2] 151) := by rw [← hw2]; exact alloc_last _ _
              clear hw2
              have d0 := hm2.cell c0
              have d1 := hm2.cell c1
              have e0 := hm2.frozen hB f0
              have e1 := hm2.frozen hB f1
              have b0 : w2.cell? ⟨wr.heap.size, 0, none⟩ = some (.int .i64 x.1) := by simp [World.cell?, hx2]
              have b1 : w2.cell? ⟨wr.heap.size, 1, none⟩ = some (.int .i64 x.2) := by simp [World.cell?, hx2]
              have hB2 := cell_lt d0
              have HP := Lib.hid ((HPU.out w2 hm2 HC.out).more (World.grownBy_alloc _ (.cells #[.int .i64 x.1, .int .i64 x.2] 151) _))
              clear hm2 hx2 c0 c1 f0 f1 x0 x1
              go_wp2_with fail
              go_roundw
              case rel => exact ⟨k + 1, O ++ [x], by omega, by go_num, by simp, HP⟩
              case measure => simp [intOf]; omega
        · obtain rfl : k = l.length := by omega
          have z0 : wr.cell? ⟨w.heap.size, 0, none⟩ = some (.slice none 0 0) := by simp [World.cell?, HI.out.res]
          have f0 := thaw HI.out.res 0
          have hz := cell_lt z0
          have HO := Lib.hid (show O = ofL l by
            have h1 := HI.out.acc
            rw [List.drop_of_length_le (by have := HSL.out; omega), lastsL, List.append_nil] at h1
            rw [h1]; exact HL.out)
          go_wp2_with fail
          refine bodyPost_ret (v := .agg #[.slice (some ⟨w.heap.size + 1, 0, none⟩) O.length l.length]) (by simp [results, Try.results38, go_sem, z0]) rfl ?_
          refine ⟨HI.out.below.setCell (p := ⟨_, _, _⟩) (Nat.le_refl _) _, _, rfl, ?_⟩
          rw [← HO.out]
          refine ⟨_, _, rfl, ?_, Or.inr ⟨_, _, rfl⟩⟩
          obtain ⟨d, hd, hdz, h3, h4⟩ := HI.out.hold
          exact row_of_hold (hd.keep (Below.heap_setCell _ _ _ _ (by simp))) h3 rfl HI.out.le (by omega)
end Go.Proofs.Ytekhoanjpnjaeaa
