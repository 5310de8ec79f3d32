/- A cause in memory, in blocks of a set. -/
import Derived.Test.YtemeppfikpafbaaGreatCauC
namespace Go.Proofs.YtemeppfikpafbaaGreat
open Go.RowKit
/-- A cause in memory, in blocks of S. -/
structure CauS (S : Nat → Prop) (w : World) (c : Cau) (u h : Value) : Prop where
  ru : Row S w 4 c.undo.length u (flatC kC c.undo)
  rh : Row S w 3 c.hold.length h (flatC mC c.hold)
  nu : NilA u
  nh : NilA h
  lu : c.undo.length ≤ 12
  lh : c.hold.length ≤ 12
theorem CauS.at {S : Nat → Prop} {w : World} {c : Cau} {u h : Value} (k : CauS S w c u h) : CauAt w c u h :=
  ⟨k.ru.mono (fun _ _ => trivial) (fun _ _ _ _ h => h), k.rh.mono (fun _ _ => trivial) (fun _ _ _ _ h => h), k.nu, k.nh, k.lu, k.lh⟩
theorem CauS.mono {S S' : Nat → Prop} {w w' : World} {c : Cau} {u h : Value} (k : CauS S w c u h) (hS : ∀ b, S b → b < w.heap.size → S' b) (hw : ∀ b, S b → b < w.heap.size → w'.heap[b]? = w.heap[b]?) : CauS S' w' c u h := by
  have key : ∀ {n sz : Nat} {v : Value} {xs : List Value}, 0 < sz → Row S w sz n v xs → Row S' w' sz n v xs := fun hz r => (r.lt hz).mono (fun b hb => hS b hb.1 hb.2) (fun b off x hb hc => by
    rw [← hc]
    exact World.cell?_of_block (w := w) (a := ⟨b, off, none⟩) (hw b hb.1 hb.2))
  exact ⟨key (by omega) k.ru, key (by omega) k.rh, k.nu, k.nh, k.lu, k.lh⟩
end Go.Proofs.YtemeppfikpafbaaGreat
