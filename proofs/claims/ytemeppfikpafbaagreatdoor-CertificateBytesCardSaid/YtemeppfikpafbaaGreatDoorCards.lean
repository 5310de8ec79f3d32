/-
  DERIVED. GIVEN WITH THE SEED: THE CARDS: each row of YtemeppfikpafbaaGreatDoorRows.lean that lists a variable, with what it lists TIED to the program's text (the seventh form; the later family's looks); each row that meets fmt, with fmt's text TOLD by the authors' own Lean function (tested against real Go, not proved from fmt's source: count such statements apart). THE CARD IS WHAT COUNTS. Prove the row's statement (the work); the ties are given (YtemeppfikpafbaaGreatDoorTie.lean); close each card by the builder's one call (the guide's Derived/Test/ToyasCard.lean, 'card_holds'). Laid BY PROGRAM, IN A SANDBOX (cutbox-door.mjs). By AI agents, Wed Nov 11 2026. No macro, syntax, notation, axiom, sorry.
-/
import Derived.Test.YtemeppfikpafbaaGreatDoorRows
import GoSem.ClaimSeven
namespace Go.Proofs.YtemeppfikpafbaaGreatDoor
namespace Rows

/-- THE TIED CARD OF 'rootcauselaw50.CertificateBytes'. -/
def certificateBytesCard : Claim7 := { stood := { row := certificateBytesRow, standIns := [], harness := (true, "cbfb8d7d0f77ed51d55c057d8408694f76d5437157ce80752a60d49ad35e5c99"), looks := false }, kinds := [], alts := [], laidByText := true, laidKinds := [.data], laidTests := true, laidLooks := .later }
def CertificateBytesCardSaid : Prop := Claim7.holds Tryz.pinned (.plain (OpenSpec.ofChange certificateBytesSpec)) certificateBytesCard

/-- THE SECOND FORM's CARD OF 'rootcauselaw50.CertificateBytes'. -/
def certificateBytesUptoCard : Claim7 := { stood := { row := certificateBytesUptoRow, standIns := [], harness := (true, "cbfb8d7d0f77ed51d55c057d8408694f76d5437157ce80752a60d49ad35e5c99"), looks := false }, kinds := [], alts := [], laidByText := true, laidKinds := [.data], laidTests := true, laidLooks := .later }
def CertificateBytesUptoCardSaid : Prop := Claim7.holds Tryz.pinned (.plain (OpenSpec.upto certificateBytesSpec)) certificateBytesUptoCard
end Rows
end Go.Proofs.YtemeppfikpafbaaGreatDoor
