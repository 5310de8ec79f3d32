/-
  DERIVED. GIVEN WITH THE SEED: THE CARDS: each row of YtknmbmdeilbdkaaGreatDoorRows.lean that lists a variable, with what it lists TIED to the program's text (the seventh form; the later family's looks); each row that meets fmt, with fmt's text TOLD by the authors' own Lean function (tested against real Go, not proved from fmt's source: count such statements apart). THE CARD IS WHAT COUNTS. Prove the row's statement (the work); the ties are given (YtknmbmdeilbdkaaGreatDoorTie.lean); close each card by the builder's one call (the guide's Derived/Test/ToyasCard.lean, 'card_holds'). Laid BY PROGRAM, IN A SANDBOX (cutbox-door.mjs). By AI agents, Wed Nov 11 2026. No macro, syntax, notation, axiom, sorry.
-/
import Derived.Test.YtknmbmdeilbdkaaGreatDoorRows
import GoSem.ClaimSeven
namespace Go.Proofs.YtknmbmdeilbdkaaGreatDoor
namespace Rows

/-- THE TIED CARD OF 'rootcauselaw38.PartialLogic'. -/
def partialLogicCard : Claim7 := { stood := { row := partialLogicRow, standIns := [], harness := (true, "8694e156aee525fe17b4508be221974a5fad01f8aecdaf55b636668aecd317f9"), looks := false }, kinds := [], alts := [], laidByText := true, laidKinds := [.data, .data, .data, .data, .data, .data, .data, .data, .data], laidTests := true, laidLooks := .later }
def PartialLogicCardSaid : Prop := Claim7.holds Tryz.pinned (.plain (OpenSpec.ofChange partialLogicSpec)) partialLogicCard

/-- THE SECOND FORM's CARD OF 'rootcauselaw38.PartialLogic'. -/
def partialLogicUptoCard : Claim7 := { stood := { row := partialLogicUptoRow, standIns := [], harness := (true, "8694e156aee525fe17b4508be221974a5fad01f8aecdaf55b636668aecd317f9"), looks := false }, kinds := [], alts := [], laidByText := true, laidKinds := [.data, .data, .data, .data, .data, .data, .data, .data, .data], laidTests := true, laidLooks := .later }
def PartialLogicUptoCardSaid : Prop := Claim7.holds Tryz.pinned (.plain (OpenSpec.upto partialLogicSpec)) partialLogicUptoCard
end Rows
end Go.Proofs.YtknmbmdeilbdkaaGreatDoor
