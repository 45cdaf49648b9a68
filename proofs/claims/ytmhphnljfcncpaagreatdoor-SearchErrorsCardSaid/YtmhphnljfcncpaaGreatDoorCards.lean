/-
  DERIVED. GIVEN WITH THE SEED: THE CARDS: each row of YtmhphnljfcncpaaGreatDoorRows.lean that lists a variable, with what it lists TIED to the program's text (the seventh form; the later family's looks); each row that meets fmt, with fmt's text TOLD by the authors' own Lean function (tested against real Go, not proved from fmt's source: count such statements apart). THE CARD IS WHAT COUNTS. Prove the row's statement (the work); the ties are given (YtmhphnljfcncpaaGreatDoorTie.lean); close each card by the builder's one call (the guide's Derived/Test/ToyasCard.lean, 'card_holds'). Laid BY PROGRAM, IN A SANDBOX (cutbox-door.mjs). By AI agents, Wed Nov 11 2026. No macro, syntax, notation, axiom, sorry.
-/
import Derived.Test.YtmhphnljfcncpaaGreatDoorRows
import GoSem.ClaimSeven
namespace Go.Proofs.YtmhphnljfcncpaaGreatDoor
namespace Rows

/-- THE TIED CARD OF 'relucertlaw42.SearchErrors'. -/
def searchErrorsCard : Claim7 := { stood := { row := searchErrorsRow, standIns := [], harness := (true, "45fb7b1d1f4bc4f3939f534fddad790816fa877ccb6ddf36600aaa19f1698905"), looks := true }, kinds := [], alts := [], laidByText := true, laidKinds := [.data, .data, .data, .data], laidTests := true, laidLooks := .later }
def SearchErrorsCardSaid : Prop := Claim7.holds Tryz.pinned (.plain (OpenSpec.ofChange searchErrorsSpec)) searchErrorsCard

/-- THE SECOND FORM's CARD OF 'relucertlaw42.SearchErrors'. -/
def searchErrorsUptoCard : Claim7 := { stood := { row := searchErrorsUptoRow, standIns := [], harness := (true, "45fb7b1d1f4bc4f3939f534fddad790816fa877ccb6ddf36600aaa19f1698905"), looks := true }, kinds := [], alts := [], laidByText := true, laidKinds := [.data, .data, .data, .data], laidTests := true, laidLooks := .later }
def SearchErrorsUptoCardSaid : Prop := Claim7.holds Tryz.pinned (.plain (OpenSpec.upto searchErrorsSpec)) searchErrorsUptoCard
end Rows
end Go.Proofs.YtmhphnljfcncpaaGreatDoor
