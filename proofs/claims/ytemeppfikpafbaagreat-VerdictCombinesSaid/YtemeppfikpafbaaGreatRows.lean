/-
  No cell of these rows narrows 'for every input' (looked for: loops, veiled, ifaces, maps, wideKeys, modest, calm, conditions, laid).
  DERIVED. THE GIVEN ROWS OF THIS SEAT. 2 by the template 'for every input the law returns true; each argument reads behind the call as it read before'; 0 by the template 'total and deterministic' (their statements: YtemeppfikpafbaaGreatTotals.lean).
  GIVEN WITH THE SEED: the statements are not yours to turn. If you find one false, say at which input.
  Laid BY PROGRAM, IN A SANDBOX (cutbox-rows.mjs): the forced cells as the released guide's own fill.sh prints them over the translation 33323b51f3160e99… (all of the seat's roots in one cut). By AI agents, Wed Nov 11 2026. No macro, syntax, notation, axiom, sorry.
-/
import Derived.Test.YtemeppfikpafbaaGreatChecked
import GoSem.Claim
import GoSem.ClaimJoined
import GoSem.ClaimMapViews
import Derived.JoinedTies
import Derived.KernelRfl
namespace Go.Proofs.YtemeppfikpafbaaGreat
/- THE CELL 'sum', in the pinned program and in every row, IS THE sha256 OF THE DUMP (.gsa) THAT YtemeppfikpafbaaGreatProg.lean LOADS. Nothing in Lean hashes anything: it is a label: what it is worth is what the hold of that sum in a sandbox is worth. -/
noncomputable def Tryz.pinned : Pinned := { name := "ytemeppfikpafbaagreat", sum := "33323b51f3160e99b3c51878b61903721348e6e446403a1ede6a099883b53632", checked := Tryz.checked }
namespace Rows
def none {H : Type} : Left H := { results := [], args := [] }

/-- 'rootcauselaw45.RankBest': WHATEVER THE INPUT: true; the input reads as it did. -/
def rankBestSpec : ChangeSpec := { name := "rankBest", fn := fun _ => fun
  | [d] => { results := [.lit (.bool true)], args := [d] }
  | _ => none }
def rankBestRow : OpenClaim := { program := "ytemeppfikpafbaagreat", sum := "33323b51f3160e99b3c51878b61903721348e6e446403a1ede6a099883b53632", func := "rootcause/rootcauselaw45.RankBest", spec := "rankBest", unfollowed := true, recurses := true, plainKeys := false, apart := false }
def RankBestSaid : Prop := rankBestRow.holds Tryz.pinned (OpenSpec.ofChange rankBestSpec)

/-- ITS FALSE NEIGHBOUR: 'it returns false'. Refute it at one input. -/
def rankBestWrong : ChangeSpec := { name := "rankBest", fn := fun _ => fun
  | [d] => { results := [.lit (.bool false)], args := [d] }
  | _ => none }
def RankBestWrongFalsely : Prop := rankBestRow.holds Tryz.pinned (OpenSpec.ofChange rankBestWrong)

/-- 'rootcauselaw49.VerdictCombines': WHATEVER THE INPUT: true; the input reads as it did. -/
def verdictCombinesSpec : ChangeSpec := { name := "verdictCombines", fn := fun _ => fun
  | [d1, d2, d3] => { results := [.lit (.bool true)], args := [d1, d2, d3] }
  | _ => none }
def verdictCombinesRow : OpenClaim := { program := "ytemeppfikpafbaagreat", sum := "33323b51f3160e99b3c51878b61903721348e6e446403a1ede6a099883b53632", func := "rootcause/rootcauselaw49.VerdictCombines", spec := "verdictCombines", unfollowed := true, recurses := true, plainKeys := false, apart := false }
def VerdictCombinesSaid : Prop := verdictCombinesRow.holds Tryz.pinned (OpenSpec.ofChange verdictCombinesSpec)

/-- ITS FALSE NEIGHBOUR: 'it returns false'. Refute it at one input. -/
def verdictCombinesWrong : ChangeSpec := { name := "verdictCombines", fn := fun _ => fun
  | [d1, d2, d3] => { results := [.lit (.bool false)], args := [d1, d2, d3] }
  | _ => none }
def VerdictCombinesWrongFalsely : Prop := verdictCombinesRow.holds Tryz.pinned (OpenSpec.ofChange verdictCombinesWrong)

/- THE SECOND FORM. 'bulk': how many values and letters a reading holds, each counted each time it is reached (what is shared counts as often as it is met; a slice's spare places count too). A statement '..UptoSaid' is the law's where the arguments, and the package variables that the reading takes, are together of bulk at most 1048576: NARROWER than '..Said'. Prove '..Said' where nothing that the law and all that it calls make is longer than what came in: it says more and counts as full. Else prove '..UptoSaid'. A law counts once. -/
mutual
def uptoBulk {H : Type} : DataW H → Nat
  | .lit (.string bytes) => bytes.length + 1
  | .lit _ => 1
  | .nil => 1
  | .ptr d => uptoBulk d + 1
  | .slice elems spare => uptoBulkAll elems + uptoBulkAll spare + 1
  | .agg parts => uptoBulkAll parts + 1
  | .iface _ d => uptoBulk d + 1
  | .map entries => uptoBulkEntries entries + 1
  | .held _ => 1
def uptoBulkAll {H : Type} : List (DataW H) → Nat
  | [] => 0
  | d :: r => uptoBulk d + uptoBulkAll r
def uptoBulkEntries {H : Type} : List (Lit × DataW H) → Nat
  | [] => 0
  | x :: r => uptoBulkEntry x + uptoBulkEntries r
def uptoBulkEntry {H : Type} : Lit × DataW H → Nat
  | (.string bytes, d) => bytes.length + uptoBulk d + 1
  | (_, d) => uptoBulk d + 1
 end
def uptoSmall : (H : Type) → List (DataW H) → Bool := fun _ ds => decide (uptoBulkAll ds ≤ 1048576)
def OpenSpec.upto (s : _root_.Go.ChangeSpec) : _root_.Go.OpenSpec := { _root_.Go.OpenSpec.ofChange s with cond := some uptoSmall }

/-- 'rootcauselaw45.RankBest', WHERE WHAT IT READS IS OF BULK AT MOST 1048576: true; the input reads as it did. -/
def rankBestUptoRow : OpenClaim := { program := "ytemeppfikpafbaagreat", sum := "33323b51f3160e99b3c51878b61903721348e6e446403a1ede6a099883b53632", func := "rootcause/rootcauselaw45.RankBest", spec := "rankBest", unfollowed := true, recurses := true, plainKeys := false, apart := false, narrowed := true }
def RankBestUptoSaid : Prop := rankBestUptoRow.holds Tryz.pinned (OpenSpec.upto rankBestSpec)

/-- 'rootcauselaw49.VerdictCombines', WHERE WHAT IT READS IS OF BULK AT MOST 1048576: true; the input reads as it did. -/
def verdictCombinesUptoRow : OpenClaim := { program := "ytemeppfikpafbaagreat", sum := "33323b51f3160e99b3c51878b61903721348e6e446403a1ede6a099883b53632", func := "rootcause/rootcauselaw49.VerdictCombines", spec := "verdictCombines", unfollowed := true, recurses := true, plainKeys := false, apart := false, narrowed := true }
def VerdictCombinesUptoSaid : Prop := verdictCombinesUptoRow.holds Tryz.pinned (OpenSpec.upto verdictCombinesSpec)

end Rows
end Go.Proofs.YtemeppfikpafbaaGreat
