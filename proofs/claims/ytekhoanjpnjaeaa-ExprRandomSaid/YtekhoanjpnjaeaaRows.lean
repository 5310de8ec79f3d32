/-
  No cell of these rows narrows 'for every input' (looked for: loops, veiled, ifaces, maps, wideKeys, modest, calm, conditions, laid).
  DERIVED. THE GIVEN ROWS OF THIS SEAT. 16 by the template 'for every input the law returns true; each argument reads behind the call as it read before'; 0 by the template 'total and deterministic' (their statements: YtekhoanjpnjaeaaTotals.lean).
  GIVEN WITH THE SEED: the statements are not yours to turn. If you find one false, say at which input.
  Laid BY PROGRAM, IN A SANDBOX (cutbox-rows.mjs): the forced cells as the released guide's own fill.sh prints them over the translation 8e95a95bee10f173… (all of the seat's roots in one cut). By AI agents, Wed Nov 11 2026. No macro, syntax, notation, axiom, sorry.
-/
import Derived.Test.YtekhoanjpnjaeaaChecked
import GoSem.Claim
import GoSem.ClaimJoined
import GoSem.ClaimMapViews
import Derived.JoinedTies
import Derived.KernelRfl
namespace Go.Proofs.Ytekhoanjpnjaeaa
/- THE CELL 'sum', in the pinned program and in every row, IS THE sha256 OF THE DUMP (.gsa) THAT YtekhoanjpnjaeaaProg.lean LOADS. Nothing in Lean hashes anything: it is a label: what it is worth is what the hold of that sum in a sandbox is worth. -/
noncomputable def Try.pinned : Pinned := { name := "ytekhoanjpnjaeaa", sum := "8e95a95bee10f173c23e088d0b6e93826014fcdd85c49e8857fa3a589bd022da", checked := Try.checked }
namespace Rows
def none {H : Type} : Left H := { results := [], args := [] }

/-- 'rootcauselaw10.ExprOps': WHATEVER THE INPUT: true; the input reads as it did. -/
def exprOpsSpec : ChangeSpec := { name := "exprOps", fn := fun _ => fun
  | [d1, d2, d3] => { results := [.lit (.bool true)], args := [d1, d2, d3] }
  | _ => none }
def exprOpsRow : OpenClaim := { program := "ytekhoanjpnjaeaa", sum := "8e95a95bee10f173c23e088d0b6e93826014fcdd85c49e8857fa3a589bd022da", func := "rootcause/rootcauselaw10.ExprOps", spec := "exprOps", recurses := true, apart := false }
def ExprOpsSaid : Prop := exprOpsRow.holds Try.pinned (OpenSpec.ofChange exprOpsSpec)

/-- ITS FALSE NEIGHBOUR: 'it returns false'. Refute it at one input. -/
def exprOpsWrong : ChangeSpec := { name := "exprOps", fn := fun _ => fun
  | [d1, d2, d3] => { results := [.lit (.bool false)], args := [d1, d2, d3] }
  | _ => none }
def ExprOpsWrongFalsely : Prop := exprOpsRow.holds Try.pinned (OpenSpec.ofChange exprOpsWrong)

/-- 'rootcauselaw10.ExprDivides': WHATEVER THE INPUT: true; the input reads as it did. -/
def exprDividesSpec : ChangeSpec := { name := "exprDivides", fn := fun _ => fun
  | [d1, d2] => { results := [.lit (.bool true)], args := [d1, d2] }
  | _ => none }
def exprDividesRow : OpenClaim := { program := "ytekhoanjpnjaeaa", sum := "8e95a95bee10f173c23e088d0b6e93826014fcdd85c49e8857fa3a589bd022da", func := "rootcause/rootcauselaw10.ExprDivides", spec := "exprDivides", recurses := true, apart := false }
def ExprDividesSaid : Prop := exprDividesRow.holds Try.pinned (OpenSpec.ofChange exprDividesSpec)

/-- ITS FALSE NEIGHBOUR: 'it returns false'. Refute it at one input. -/
def exprDividesWrong : ChangeSpec := { name := "exprDivides", fn := fun _ => fun
  | [d1, d2] => { results := [.lit (.bool false)], args := [d1, d2] }
  | _ => none }
def ExprDividesWrongFalsely : Prop := exprDividesRow.holds Try.pinned (OpenSpec.ofChange exprDividesWrong)

/-- 'rootcauselaw10.ExprFolds': WHATEVER THE INPUT: true; the input reads as it did. -/
def exprFoldsSpec : ChangeSpec := { name := "exprFolds", fn := fun _ => fun
  | [d] => { results := [.lit (.bool true)], args := [d] }
  | _ => none }
def exprFoldsRow : OpenClaim := { program := "ytekhoanjpnjaeaa", sum := "8e95a95bee10f173c23e088d0b6e93826014fcdd85c49e8857fa3a589bd022da", func := "rootcause/rootcauselaw10.ExprFolds", spec := "exprFolds", unfollowed := true, recurses := true, apart := false }
def ExprFoldsSaid : Prop := exprFoldsRow.holds Try.pinned (OpenSpec.ofChange exprFoldsSpec)

/-- ITS FALSE NEIGHBOUR: 'it returns false'. Refute it at one input. -/
def exprFoldsWrong : ChangeSpec := { name := "exprFolds", fn := fun _ => fun
  | [d] => { results := [.lit (.bool false)], args := [d] }
  | _ => none }
def ExprFoldsWrongFalsely : Prop := exprFoldsRow.holds Try.pinned (OpenSpec.ofChange exprFoldsWrong)

/-- 'rootcauselaw09.TablePlays': WHATEVER THE INPUT: true; the input reads as it did. -/
def tablePlaysSpec : ChangeSpec := { name := "tablePlays", fn := fun _ => fun
  | [d1, d2] => { results := [.lit (.bool true)], args := [d1, d2] }
  | _ => none }
def tablePlaysRow : OpenClaim := { program := "ytekhoanjpnjaeaa", sum := "8e95a95bee10f173c23e088d0b6e93826014fcdd85c49e8857fa3a589bd022da", func := "rootcause/rootcauselaw09.TablePlays", spec := "tablePlays", unfollowed := true, recurses := true, apart := false }
def TablePlaysSaid : Prop := tablePlaysRow.holds Try.pinned (OpenSpec.ofChange tablePlaysSpec)

/-- ITS FALSE NEIGHBOUR: 'it returns false'. Refute it at one input. -/
def tablePlaysWrong : ChangeSpec := { name := "tablePlays", fn := fun _ => fun
  | [d1, d2] => { results := [.lit (.bool false)], args := [d1, d2] }
  | _ => none }
def TablePlaysWrongFalsely : Prop := tablePlaysRow.holds Try.pinned (OpenSpec.ofChange tablePlaysWrong)

/-- 'rootcauselaw09.TableLists': WHATEVER THE INPUT: true; the input reads as it did. -/
def tableListsSpec : ChangeSpec := { name := "tableLists", fn := fun _ => fun
  | [d1, d2] => { results := [.lit (.bool true)], args := [d1, d2] }
  | _ => none }
def tableListsRow : OpenClaim := { program := "ytekhoanjpnjaeaa", sum := "8e95a95bee10f173c23e088d0b6e93826014fcdd85c49e8857fa3a589bd022da", func := "rootcause/rootcauselaw09.TableLists", spec := "tableLists", unfollowed := true, recurses := true, apart := false }
def TableListsSaid : Prop := tableListsRow.holds Try.pinned (OpenSpec.ofChange tableListsSpec)

/-- ITS FALSE NEIGHBOUR: 'it returns false'. Refute it at one input. -/
def tableListsWrong : ChangeSpec := { name := "tableLists", fn := fun _ => fun
  | [d1, d2] => { results := [.lit (.bool false)], args := [d1, d2] }
  | _ => none }
def TableListsWrongFalsely : Prop := tableListsRow.holds Try.pinned (OpenSpec.ofChange tableListsWrong)

/-- 'rootcauselaw09.TableLeaves': WHATEVER THE INPUT: true; the input reads as it did. -/
def tableLeavesSpec : ChangeSpec := { name := "tableLeaves", fn := fun _ => fun
  | [d1, d2] => { results := [.lit (.bool true)], args := [d1, d2] }
  | _ => none }
def tableLeavesRow : OpenClaim := { program := "ytekhoanjpnjaeaa", sum := "8e95a95bee10f173c23e088d0b6e93826014fcdd85c49e8857fa3a589bd022da", func := "rootcause/rootcauselaw09.TableLeaves", spec := "tableLeaves", unfollowed := true, recurses := true, apart := false }
def TableLeavesSaid : Prop := tableLeavesRow.holds Try.pinned (OpenSpec.ofChange tableLeavesSpec)

/-- ITS FALSE NEIGHBOUR: 'it returns false'. Refute it at one input. -/
def tableLeavesWrong : ChangeSpec := { name := "tableLeaves", fn := fun _ => fun
  | [d1, d2] => { results := [.lit (.bool false)], args := [d1, d2] }
  | _ => none }
def TableLeavesWrongFalsely : Prop := tableLeavesRow.holds Try.pinned (OpenSpec.ofChange tableLeavesWrong)

/-- 'rootcauselaw09.TableEquals': WHATEVER THE INPUT: true; the input reads as it did. -/
def tableEqualsSpec : ChangeSpec := { name := "tableEquals", fn := fun _ => fun
  | [d1, d2, d3] => { results := [.lit (.bool true)], args := [d1, d2, d3] }
  | _ => none }
def tableEqualsRow : OpenClaim := { program := "ytekhoanjpnjaeaa", sum := "8e95a95bee10f173c23e088d0b6e93826014fcdd85c49e8857fa3a589bd022da", func := "rootcause/rootcauselaw09.TableEquals", spec := "tableEquals", unfollowed := true, recurses := true, apart := false }
def TableEqualsSaid : Prop := tableEqualsRow.holds Try.pinned (OpenSpec.ofChange tableEqualsSpec)

/-- ITS FALSE NEIGHBOUR: 'it returns false'. Refute it at one input. -/
def tableEqualsWrong : ChangeSpec := { name := "tableEquals", fn := fun _ => fun
  | [d1, d2, d3] => { results := [.lit (.bool false)], args := [d1, d2, d3] }
  | _ => none }
def TableEqualsWrongFalsely : Prop := tableEqualsRow.holds Try.pinned (OpenSpec.ofChange tableEqualsWrong)

/-- 'rootcauselaw09.TableOrders': WHATEVER THE INPUT: true; the input reads as it did. -/
def tableOrdersSpec : ChangeSpec := { name := "tableOrders", fn := fun _ => fun
  | [d1, d2, d3] => { results := [.lit (.bool true)], args := [d1, d2, d3] }
  | _ => none }
def tableOrdersRow : OpenClaim := { program := "ytekhoanjpnjaeaa", sum := "8e95a95bee10f173c23e088d0b6e93826014fcdd85c49e8857fa3a589bd022da", func := "rootcause/rootcauselaw09.TableOrders", spec := "tableOrders", unfollowed := true, recurses := true, apart := false }
def TableOrdersSaid : Prop := tableOrdersRow.holds Try.pinned (OpenSpec.ofChange tableOrdersSpec)

/-- ITS FALSE NEIGHBOUR: 'it returns false'. Refute it at one input. -/
def tableOrdersWrong : ChangeSpec := { name := "tableOrders", fn := fun _ => fun
  | [d1, d2, d3] => { results := [.lit (.bool false)], args := [d1, d2, d3] }
  | _ => none }
def TableOrdersWrongFalsely : Prop := tableOrdersRow.holds Try.pinned (OpenSpec.ofChange tableOrdersWrong)

/-- 'rootcauselaw09.TableBytes': WHATEVER THE INPUT: true; the input reads as it did. -/
def tableBytesSpec : ChangeSpec := { name := "tableBytes", fn := fun _ => fun
  | [d1, d2, d3] => { results := [.lit (.bool true)], args := [d1, d2, d3] }
  | _ => none }
def tableBytesRow : OpenClaim := { program := "ytekhoanjpnjaeaa", sum := "8e95a95bee10f173c23e088d0b6e93826014fcdd85c49e8857fa3a589bd022da", func := "rootcause/rootcauselaw09.TableBytes", spec := "tableBytes", unfollowed := true, recurses := true, apart := false }
def TableBytesSaid : Prop := tableBytesRow.holds Try.pinned (OpenSpec.ofChange tableBytesSpec)

/-- ITS FALSE NEIGHBOUR: 'it returns false'. Refute it at one input. -/
def tableBytesWrong : ChangeSpec := { name := "tableBytes", fn := fun _ => fun
  | [d1, d2, d3] => { results := [.lit (.bool false)], args := [d1, d2, d3] }
  | _ => none }
def TableBytesWrongFalsely : Prop := tableBytesRow.holds Try.pinned (OpenSpec.ofChange tableBytesWrong)

/-- 'rootcauselaw09.TableReads': WHATEVER THE INPUT: true; the input reads as it did. -/
def tableReadsSpec : ChangeSpec := { name := "tableReads", fn := fun _ => fun
  | [d] => { results := [.lit (.bool true)], args := [d] }
  | _ => none }
def tableReadsRow : OpenClaim := { program := "ytekhoanjpnjaeaa", sum := "8e95a95bee10f173c23e088d0b6e93826014fcdd85c49e8857fa3a589bd022da", func := "rootcause/rootcauselaw09.TableReads", spec := "tableReads", unfollowed := true, recurses := true, apart := false }
def TableReadsSaid : Prop := tableReadsRow.holds Try.pinned (OpenSpec.ofChange tableReadsSpec)

/-- ITS FALSE NEIGHBOUR: 'it returns false'. Refute it at one input. -/
def tableReadsWrong : ChangeSpec := { name := "tableReads", fn := fun _ => fun
  | [d] => { results := [.lit (.bool false)], args := [d] }
  | _ => none }
def TableReadsWrongFalsely : Prop := tableReadsRow.holds Try.pinned (OpenSpec.ofChange tableReadsWrong)

/-- 'rootcauselaw10.ExprEvals': WHATEVER THE INPUT: true; the input reads as it did. -/
def exprEvalsSpec : ChangeSpec := { name := "exprEvals", fn := fun _ => fun
  | [d1, d2] => { results := [.lit (.bool true)], args := [d1, d2] }
  | _ => none }
def exprEvalsRow : OpenClaim := { program := "ytekhoanjpnjaeaa", sum := "8e95a95bee10f173c23e088d0b6e93826014fcdd85c49e8857fa3a589bd022da", func := "rootcause/rootcauselaw10.ExprEvals", spec := "exprEvals", unfollowed := true, recurses := true, apart := false }
def ExprEvalsSaid : Prop := exprEvalsRow.holds Try.pinned (OpenSpec.ofChange exprEvalsSpec)

/-- ITS FALSE NEIGHBOUR: 'it returns false'. Refute it at one input. -/
def exprEvalsWrong : ChangeSpec := { name := "exprEvals", fn := fun _ => fun
  | [d1, d2] => { results := [.lit (.bool false)], args := [d1, d2] }
  | _ => none }
def ExprEvalsWrongFalsely : Prop := exprEvalsRow.holds Try.pinned (OpenSpec.ofChange exprEvalsWrong)

/-- 'rootcauselaw10.ExprJoins': WHATEVER THE INPUT: true; the input reads as it did. -/
def exprJoinsSpec : ChangeSpec := { name := "exprJoins", fn := fun _ => fun
  | [d1, d2, d3] => { results := [.lit (.bool true)], args := [d1, d2, d3] }
  | _ => none }
def exprJoinsRow : OpenClaim := { program := "ytekhoanjpnjaeaa", sum := "8e95a95bee10f173c23e088d0b6e93826014fcdd85c49e8857fa3a589bd022da", func := "rootcause/rootcauselaw10.ExprJoins", spec := "exprJoins", unfollowed := true, recurses := true, apart := false }
def ExprJoinsSaid : Prop := exprJoinsRow.holds Try.pinned (OpenSpec.ofChange exprJoinsSpec)

/-- ITS FALSE NEIGHBOUR: 'it returns false'. Refute it at one input. -/
def exprJoinsWrong : ChangeSpec := { name := "exprJoins", fn := fun _ => fun
  | [d1, d2, d3] => { results := [.lit (.bool false)], args := [d1, d2, d3] }
  | _ => none }
def ExprJoinsWrongFalsely : Prop := exprJoinsRow.holds Try.pinned (OpenSpec.ofChange exprJoinsWrong)

/-- 'rootcauselaw10.ExprKeeps': WHATEVER THE INPUT: true; the input reads as it did. -/
def exprKeepsSpec : ChangeSpec := { name := "exprKeeps", fn := fun _ => fun
  | [d1, d2] => { results := [.lit (.bool true)], args := [d1, d2] }
  | _ => none }
def exprKeepsRow : OpenClaim := { program := "ytekhoanjpnjaeaa", sum := "8e95a95bee10f173c23e088d0b6e93826014fcdd85c49e8857fa3a589bd022da", func := "rootcause/rootcauselaw10.ExprKeeps", spec := "exprKeeps", unfollowed := true, recurses := true, apart := false }
def ExprKeepsSaid : Prop := exprKeepsRow.holds Try.pinned (OpenSpec.ofChange exprKeepsSpec)

/-- ITS FALSE NEIGHBOUR: 'it returns false'. Refute it at one input. -/
def exprKeepsWrong : ChangeSpec := { name := "exprKeeps", fn := fun _ => fun
  | [d1, d2] => { results := [.lit (.bool false)], args := [d1, d2] }
  | _ => none }
def ExprKeepsWrongFalsely : Prop := exprKeepsRow.holds Try.pinned (OpenSpec.ofChange exprKeepsWrong)

/-- 'rootcauselaw10.ExprReads': WHATEVER THE INPUT: true; the input reads as it did. -/
def exprReadsSpec : ChangeSpec := { name := "exprReads", fn := fun _ => fun
  | [d] => { results := [.lit (.bool true)], args := [d] }
  | _ => none }
def exprReadsRow : OpenClaim := { program := "ytekhoanjpnjaeaa", sum := "8e95a95bee10f173c23e088d0b6e93826014fcdd85c49e8857fa3a589bd022da", func := "rootcause/rootcauselaw10.ExprReads", spec := "exprReads", unfollowed := true, recurses := true, apart := false }
def ExprReadsSaid : Prop := exprReadsRow.holds Try.pinned (OpenSpec.ofChange exprReadsSpec)

/-- ITS FALSE NEIGHBOUR: 'it returns false'. Refute it at one input. -/
def exprReadsWrong : ChangeSpec := { name := "exprReads", fn := fun _ => fun
  | [d] => { results := [.lit (.bool false)], args := [d] }
  | _ => none }
def ExprReadsWrongFalsely : Prop := exprReadsRow.holds Try.pinned (OpenSpec.ofChange exprReadsWrong)

/-- 'rootcauselaw10.ExprDepends': WHATEVER THE INPUT: true; the input reads as it did. -/
def exprDependsSpec : ChangeSpec := { name := "exprDepends", fn := fun _ => fun
  | [d1, d2, d3] => { results := [.lit (.bool true)], args := [d1, d2, d3] }
  | _ => none }
def exprDependsRow : OpenClaim := { program := "ytekhoanjpnjaeaa", sum := "8e95a95bee10f173c23e088d0b6e93826014fcdd85c49e8857fa3a589bd022da", func := "rootcause/rootcauselaw10.ExprDepends", spec := "exprDepends", unfollowed := true, recurses := true, apart := false }
def ExprDependsSaid : Prop := exprDependsRow.holds Try.pinned (OpenSpec.ofChange exprDependsSpec)

/-- ITS FALSE NEIGHBOUR: 'it returns false'. Refute it at one input. -/
def exprDependsWrong : ChangeSpec := { name := "exprDepends", fn := fun _ => fun
  | [d1, d2, d3] => { results := [.lit (.bool false)], args := [d1, d2, d3] }
  | _ => none }
def ExprDependsWrongFalsely : Prop := exprDependsRow.holds Try.pinned (OpenSpec.ofChange exprDependsWrong)

/-- 'rootcauselaw10.ExprRandom': WHATEVER THE INPUT: true; the input reads as it did. -/
def exprRandomSpec : ChangeSpec := { name := "exprRandom", fn := fun _ => fun
  | [d1, d2] => { results := [.lit (.bool true)], args := [d1, d2] }
  | _ => none }
def exprRandomRow : OpenClaim := { program := "ytekhoanjpnjaeaa", sum := "8e95a95bee10f173c23e088d0b6e93826014fcdd85c49e8857fa3a589bd022da", func := "rootcause/rootcauselaw10.ExprRandom", spec := "exprRandom", unfollowed := true, recurses := true, apart := false }
def ExprRandomSaid : Prop := exprRandomRow.holds Try.pinned (OpenSpec.ofChange exprRandomSpec)

/-- ITS FALSE NEIGHBOUR: 'it returns false'. Refute it at one input. -/
def exprRandomWrong : ChangeSpec := { name := "exprRandom", fn := fun _ => fun
  | [d1, d2] => { results := [.lit (.bool false)], args := [d1, d2] }
  | _ => none }
def ExprRandomWrongFalsely : Prop := exprRandomRow.holds Try.pinned (OpenSpec.ofChange exprRandomWrong)

/- THE SECOND FORM. 'bulk': how many values and letters a reading holds, each counted each time it is reached (what is shared counts as often as it is met; a slice's spare places count too). A statement '..UptoSaid' is the law's where the arguments, and the package variables that the reading takes, are together of bulk at most 1048576: NARROWER than '..Said'. Prove '..Said' where nothing that the law and all that it calls make is longer than what came in: it says more and counts as full. Else prove '..UptoSaid'. A law counts once. -/
mutual
def uptoBulk {H : Type} : DataW H → Nat
  | .lit (.string bytes) => bytes.length + 1
  | .lit _ => 1
  | .nil => 1
  | .ptr d => uptoBulk d + 1
  | .slice elems spare => uptoBulkAll elems + uptoBulkAll spare + 1
  | .agg parts => uptoBulkAll parts + 1
  | .iface _ d => uptoBulk d + 1
  | .map entries => uptoBulkEntries entries + 1
  | .held _ => 1
def uptoBulkAll {H : Type} : List (DataW H) → Nat
  | [] => 0
  | d :: r => uptoBulk d + uptoBulkAll r
def uptoBulkEntries {H : Type} : List (Lit × DataW H) → Nat
  | [] => 0
  | x :: r => uptoBulkEntry x + uptoBulkEntries r
def uptoBulkEntry {H : Type} : Lit × DataW H → Nat
  | (.string bytes, d) => bytes.length + uptoBulk d + 1
  | (_, d) => uptoBulk d + 1
 end
def uptoSmall : (H : Type) → List (DataW H) → Bool := fun _ ds => decide (uptoBulkAll ds ≤ 1048576)
def OpenSpec.upto (s : _root_.Go.ChangeSpec) : _root_.Go.OpenSpec := { _root_.Go.OpenSpec.ofChange s with cond := some uptoSmall }

/-- 'rootcauselaw10.ExprOps', WHERE WHAT IT READS IS OF BULK AT MOST 1048576: true; the input reads as it did. -/
def exprOpsUptoRow : OpenClaim := { program := "ytekhoanjpnjaeaa", sum := "8e95a95bee10f173c23e088d0b6e93826014fcdd85c49e8857fa3a589bd022da", func := "rootcause/rootcauselaw10.ExprOps", spec := "exprOps", recurses := true, apart := false, narrowed := true }
def ExprOpsUptoSaid : Prop := exprOpsUptoRow.holds Try.pinned (OpenSpec.upto exprOpsSpec)

/-- 'rootcauselaw10.ExprDivides', WHERE WHAT IT READS IS OF BULK AT MOST 1048576: true; the input reads as it did. -/
def exprDividesUptoRow : OpenClaim := { program := "ytekhoanjpnjaeaa", sum := "8e95a95bee10f173c23e088d0b6e93826014fcdd85c49e8857fa3a589bd022da", func := "rootcause/rootcauselaw10.ExprDivides", spec := "exprDivides", recurses := true, apart := false, narrowed := true }
def ExprDividesUptoSaid : Prop := exprDividesUptoRow.holds Try.pinned (OpenSpec.upto exprDividesSpec)

/-- 'rootcauselaw10.ExprFolds', WHERE WHAT IT READS IS OF BULK AT MOST 1048576: true; the input reads as it did. -/
def exprFoldsUptoRow : OpenClaim := { program := "ytekhoanjpnjaeaa", sum := "8e95a95bee10f173c23e088d0b6e93826014fcdd85c49e8857fa3a589bd022da", func := "rootcause/rootcauselaw10.ExprFolds", spec := "exprFolds", unfollowed := true, recurses := true, apart := false, narrowed := true }
def ExprFoldsUptoSaid : Prop := exprFoldsUptoRow.holds Try.pinned (OpenSpec.upto exprFoldsSpec)

/-- 'rootcauselaw09.TablePlays', WHERE WHAT IT READS IS OF BULK AT MOST 1048576: true; the input reads as it did. -/
def tablePlaysUptoRow : OpenClaim := { program := "ytekhoanjpnjaeaa", sum := "8e95a95bee10f173c23e088d0b6e93826014fcdd85c49e8857fa3a589bd022da", func := "rootcause/rootcauselaw09.TablePlays", spec := "tablePlays", unfollowed := true, recurses := true, apart := false, narrowed := true }
def TablePlaysUptoSaid : Prop := tablePlaysUptoRow.holds Try.pinned (OpenSpec.upto tablePlaysSpec)

/-- 'rootcauselaw09.TableLists', WHERE WHAT IT READS IS OF BULK AT MOST 1048576: true; the input reads as it did. -/
def tableListsUptoRow : OpenClaim := { program := "ytekhoanjpnjaeaa", sum := "8e95a95bee10f173c23e088d0b6e93826014fcdd85c49e8857fa3a589bd022da", func := "rootcause/rootcauselaw09.TableLists", spec := "tableLists", unfollowed := true, recurses := true, apart := false, narrowed := true }
def TableListsUptoSaid : Prop := tableListsUptoRow.holds Try.pinned (OpenSpec.upto tableListsSpec)

/-- 'rootcauselaw09.TableLeaves', WHERE WHAT IT READS IS OF BULK AT MOST 1048576: true; the input reads as it did. -/
def tableLeavesUptoRow : OpenClaim := { program := "ytekhoanjpnjaeaa", sum := "8e95a95bee10f173c23e088d0b6e93826014fcdd85c49e8857fa3a589bd022da", func := "rootcause/rootcauselaw09.TableLeaves", spec := "tableLeaves", unfollowed := true, recurses := true, apart := false, narrowed := true }
def TableLeavesUptoSaid : Prop := tableLeavesUptoRow.holds Try.pinned (OpenSpec.upto tableLeavesSpec)

/-- 'rootcauselaw09.TableEquals', WHERE WHAT IT READS IS OF BULK AT MOST 1048576: true; the input reads as it did. -/
def tableEqualsUptoRow : OpenClaim := { program := "ytekhoanjpnjaeaa", sum := "8e95a95bee10f173c23e088d0b6e93826014fcdd85c49e8857fa3a589bd022da", func := "rootcause/rootcauselaw09.TableEquals", spec := "tableEquals", unfollowed := true, recurses := true, apart := false, narrowed := true }
def TableEqualsUptoSaid : Prop := tableEqualsUptoRow.holds Try.pinned (OpenSpec.upto tableEqualsSpec)

/-- 'rootcauselaw09.TableOrders', WHERE WHAT IT READS IS OF BULK AT MOST 1048576: true; the input reads as it did. -/
def tableOrdersUptoRow : OpenClaim := { program := "ytekhoanjpnjaeaa", sum := "8e95a95bee10f173c23e088d0b6e93826014fcdd85c49e8857fa3a589bd022da", func := "rootcause/rootcauselaw09.TableOrders", spec := "tableOrders", unfollowed := true, recurses := true, apart := false, narrowed := true }
def TableOrdersUptoSaid : Prop := tableOrdersUptoRow.holds Try.pinned (OpenSpec.upto tableOrdersSpec)

/-- 'rootcauselaw09.TableBytes', WHERE WHAT IT READS IS OF BULK AT MOST 1048576: true; the input reads as it did. -/
def tableBytesUptoRow : OpenClaim := { program := "ytekhoanjpnjaeaa", sum := "8e95a95bee10f173c23e088d0b6e93826014fcdd85c49e8857fa3a589bd022da", func := "rootcause/rootcauselaw09.TableBytes", spec := "tableBytes", unfollowed := true, recurses := true, apart := false, narrowed := true }
def TableBytesUptoSaid : Prop := tableBytesUptoRow.holds Try.pinned (OpenSpec.upto tableBytesSpec)

/-- 'rootcauselaw09.TableReads', WHERE WHAT IT READS IS OF BULK AT MOST 1048576: true; the input reads as it did. -/
def tableReadsUptoRow : OpenClaim := { program := "ytekhoanjpnjaeaa", sum := "8e95a95bee10f173c23e088d0b6e93826014fcdd85c49e8857fa3a589bd022da", func := "rootcause/rootcauselaw09.TableReads", spec := "tableReads", unfollowed := true, recurses := true, apart := false, narrowed := true }
def TableReadsUptoSaid : Prop := tableReadsUptoRow.holds Try.pinned (OpenSpec.upto tableReadsSpec)

/-- 'rootcauselaw10.ExprEvals', WHERE WHAT IT READS IS OF BULK AT MOST 1048576: true; the input reads as it did. -/
def exprEvalsUptoRow : OpenClaim := { program := "ytekhoanjpnjaeaa", sum := "8e95a95bee10f173c23e088d0b6e93826014fcdd85c49e8857fa3a589bd022da", func := "rootcause/rootcauselaw10.ExprEvals", spec := "exprEvals", unfollowed := true, recurses := true, apart := false, narrowed := true }
def ExprEvalsUptoSaid : Prop := exprEvalsUptoRow.holds Try.pinned (OpenSpec.upto exprEvalsSpec)

/-- 'rootcauselaw10.ExprJoins', WHERE WHAT IT READS IS OF BULK AT MOST 1048576: true; the input reads as it did. -/
def exprJoinsUptoRow : OpenClaim := { program := "ytekhoanjpnjaeaa", sum := "8e95a95bee10f173c23e088d0b6e93826014fcdd85c49e8857fa3a589bd022da", func := "rootcause/rootcauselaw10.ExprJoins", spec := "exprJoins", unfollowed := true, recurses := true, apart := false, narrowed := true }
def ExprJoinsUptoSaid : Prop := exprJoinsUptoRow.holds Try.pinned (OpenSpec.upto exprJoinsSpec)

/-- 'rootcauselaw10.ExprKeeps', WHERE WHAT IT READS IS OF BULK AT MOST 1048576: true; the input reads as it did. -/
def exprKeepsUptoRow : OpenClaim := { program := "ytekhoanjpnjaeaa", sum := "8e95a95bee10f173c23e088d0b6e93826014fcdd85c49e8857fa3a589bd022da", func := "rootcause/rootcauselaw10.ExprKeeps", spec := "exprKeeps", unfollowed := true, recurses := true, apart := false, narrowed := true }
def ExprKeepsUptoSaid : Prop := exprKeepsUptoRow.holds Try.pinned (OpenSpec.upto exprKeepsSpec)

/-- 'rootcauselaw10.ExprReads', WHERE WHAT IT READS IS OF BULK AT MOST 1048576: true; the input reads as it did. -/
def exprReadsUptoRow : OpenClaim := { program := "ytekhoanjpnjaeaa", sum := "8e95a95bee10f173c23e088d0b6e93826014fcdd85c49e8857fa3a589bd022da", func := "rootcause/rootcauselaw10.ExprReads", spec := "exprReads", unfollowed := true, recurses := true, apart := false, narrowed := true }
def ExprReadsUptoSaid : Prop := exprReadsUptoRow.holds Try.pinned (OpenSpec.upto exprReadsSpec)

/-- 'rootcauselaw10.ExprDepends', WHERE WHAT IT READS IS OF BULK AT MOST 1048576: true; the input reads as it did. -/
def exprDependsUptoRow : OpenClaim := { program := "ytekhoanjpnjaeaa", sum := "8e95a95bee10f173c23e088d0b6e93826014fcdd85c49e8857fa3a589bd022da", func := "rootcause/rootcauselaw10.ExprDepends", spec := "exprDepends", unfollowed := true, recurses := true, apart := false, narrowed := true }
def ExprDependsUptoSaid : Prop := exprDependsUptoRow.holds Try.pinned (OpenSpec.upto exprDependsSpec)

/-- 'rootcauselaw10.ExprRandom', WHERE WHAT IT READS IS OF BULK AT MOST 1048576: true; the input reads as it did. -/
def exprRandomUptoRow : OpenClaim := { program := "ytekhoanjpnjaeaa", sum := "8e95a95bee10f173c23e088d0b6e93826014fcdd85c49e8857fa3a589bd022da", func := "rootcause/rootcauselaw10.ExprRandom", spec := "exprRandom", unfollowed := true, recurses := true, apart := false, narrowed := true }
def ExprRandomUptoSaid : Prop := exprRandomUptoRow.holds Try.pinned (OpenSpec.upto exprRandomSpec)

end Rows
end Go.Proofs.Ytekhoanjpnjaeaa
