/- Keys and messages as keys of maps. -/
import Derived.Test.YtemeppfikpafbaaOrdK
import Derived.Maps.OwnSet
import Derived.Maps.OwnOps
import Derived.DeepKeys4
import Derived.KernelRfl
namespace Go.Proofs.Ytemeppfikpafbaa
open Go.RowKit Go.Maps
theorem kLaid : laidOutB Try.prog = true := by kernel_rfl
theorem lawK : Keyed Try.prog 48 := Keyed.of_law (deep_law_laid kLaid (m := 3) (by omega) (by decide +kernel) (by kernel_rfl) (by kernel_rfl))
def In64 (x : Int) : Prop := -9223372036854775808 ≤ x ∧ x ≤ 9223372036854775807
structure K4.Ok (x : K4) : Prop where
  kind : 0 ≤ x.kind ∧ x.kind ≤ 255
  a : In64 x.a
  b : In64 x.b
  n : In64 x.n
def kL (x : K4) : Lit := .string (keyBytes [.int .u8 x.kind, .int .i64 x.a, .int .i64 x.b, .int .i64 x.n])
theorem wf_i64 {x : Int} (h : In64 x) : (Lit.int .i64 x).wf = true := by
  obtain ⟨h1, h2⟩ := h
  simp [Lit.wf, IntKind.min, IntKind.max, IntKind.signed, IntKind.bits]; omega
theorem wf_u8 {x : Int} (h : 0 ≤ x ∧ x ≤ 255) : (Lit.int .u8 x).wf = true := by
  obtain ⟨h1, h2⟩ := h
  simp [Lit.wf, IntKind.min, IntKind.max, IntKind.signed, IntKind.bits]; omega
theorem lits_int {d t : Nat} {q : IntKind} {x : Int} (ht : Try.prog.underlying t = some (.int q)) (h : (Lit.int q x).wf = true) : Try.prog.keyLits (d + 1) t [.int q x] = some [.int q x] := by
  simp [Program.keyLits, ht, h]
theorem sizeK : Try.prog.types.size = 1 + (Try.prog.types.size - 1) := by decide +kernel
theorem cells46 : Try.prog.cellsOf 46 = 1 := by kernel_rfl
theorem cells3 : Try.prog.cellsOf 3 = 1 := by kernel_rfl
theorem cells48 : Try.prog.cellsOf 48 = 4 := by kernel_rfl
theorem typeK : Try.prog.keyType 48 = true := by decide +kernel
theorem keyOf_K (x : K4) (h : x.Ok) : keyOf Try.prog 48 (kA x) = some (kL x) := by
  have hl : Try.prog.keyLits (Try.prog.types.size + 1) 48 (kC x) = some [.int .u8 x.kind, .int .i64 x.a, .int .i64 x.b, .int .i64 x.n] := by
    rw [sizeK, Nat.add_comm 1]
    conv => lhs; unfold Program.keyLits
    simp only [Try.underlying48, kC]
    simp [cells48, cells46, cells3, lits_int Try.underlying46 (wf_u8 h.kind), lits_int Try.underlying3 (wf_i64 h.a), lits_int Try.underlying3 (wf_i64 h.b), lits_int Try.underlying3 (wf_i64 h.n)]
  unfold keyOf
  simp only [Try.underlying48, typeK]
  rw [show (kA x).cells.toList = kC x from rfl, hl]
  simp [kA, Value.formed, Try.underlying48, cells48, kL]
end Go.Proofs.Ytemeppfikpafbaa
