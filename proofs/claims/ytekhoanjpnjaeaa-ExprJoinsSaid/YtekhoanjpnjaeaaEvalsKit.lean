/- Small lemmas for the laws over environments. -/
import Derived.Test.YtekhoanjpnjaeaaEnvProg
import Derived.Test.YtekhoanjpnjaeaaOpenEnv
namespace Go.Proofs.Ytekhoanjpnjaeaa
open Go.RowKit
theorem Row.apart {w : World} {size n : Nat} {v : Value} {xs : List Value} (hs : 0 < size) (h : Row (fun _ => True) w size n v xs) : Row (fun x => x ≠ w.heap.size) w size n v xs :=
  h.mono2 hs (fun b o u _ hu => ⟨by have := cell_lt hu; omega, hu⟩)
theorem EnvRaw.apart {w : World} {e : EnvD} {c1 c2 c3 c4 : Value} (h : EnvRaw (fun _ => True) w e c1 c2 c3 c4) : EnvRaw (fun x => x ≠ w.heap.size) w e c1 c2 c3 c4 := by
  obtain ⟨a, b, c, ⟨ts, d, hd⟩, f, g, i⟩ := h
  exact ⟨a.apart (by omega), b.apart (by omega), c.apart (by omega), ⟨ts, d.apart (by omega), fun i hi => by obtain ⟨tv, h1, h2⟩ := hd i hi; exact ⟨tv, h1, h2.apart (by omega)⟩⟩, f, g, i⟩
theorem EnvRep.mono' {S S' : Nat → Prop} {w w' : World} {e : EnvD} {c1 c2 c3 c4 : Value} (h : EnvRep S w e c1 c2 c3 c4) (hw : ∀ b off u, S b → w.cell? ⟨b, off, none⟩ = some u → S' b ∧ w'.cell? ⟨b, off, none⟩ = some u) : EnvRep S' w' e c1 c2 c3 c4 := by
  obtain ⟨a, b, c, ⟨ts, d, hd⟩, f, g⟩ := h
  exact ⟨a.mono2 (by omega) hw, b.mono2 (by omega) hw, c.mono2 (by omega) hw, ⟨ts, d.mono2 (by omega) hw, fun i hi => by obtain ⟨tv, h1, h2⟩ := hd i hi; exact ⟨tv, h1, h2.mono2 (by omega) hw⟩⟩, f, g⟩
theorem EnvRep.mono {S S' : Nat → Prop} {w : World} {e : EnvD} {c1 c2 c3 c4 : Value} (h : EnvRep S w e c1 c2 c3 c4) (hS : ∀ x, S x → S' x) : EnvRep S' w e c1 c2 c3 c4 := h.mono' (fun b _ _ hb hu => ⟨hS b hb, hu⟩)
theorem set5_same {w : World} {M : Nat} {x0 x1 x2 x3 x4 : Value} {ty : TypeId} (h : w.heap[M]? = some (.cells #[x0, x1, x2, x3, x4] ty)) (a b c d e : Value) : (set5 w M a b c d e).heap[M]? = some (.cells #[a, b, c, d, e] ty) := by
  unfold set5
  exact heap_setCell_same _ _ _ _ _ _ (heap_setCell_same _ _ _ _ _ _ (heap_setCell_same _ _ _ _ _ _ (heap_setCell_same _ _ _ _ _ _ (heap_setCell_same _ _ _ _ _ _ h))))
theorem Flds.u8 {t : Ex} (h : Flds .i64 t) : Flds .u8 t := ⟨h.op, h.n, h.name, h.len⟩
end Go.Proofs.Ytekhoanjpnjaeaa
