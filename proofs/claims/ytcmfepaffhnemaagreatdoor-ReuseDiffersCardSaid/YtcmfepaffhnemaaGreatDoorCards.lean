/-
  DERIVED. GIVEN WITH THE SEED: THE CARDS: each row of YtcmfepaffhnemaaGreatDoorRows.lean that lists a variable, with what it lists TIED to the program's text (the seventh form; the later family's looks); each row that meets fmt, with fmt's text TOLD by the authors' own Lean function (tested against real Go, not proved from fmt's source: count such statements apart). THE CARD IS WHAT COUNTS. Prove the row's statement (the work); the ties are given (YtcmfepaffhnemaaGreatDoorTie.lean); close each card by the builder's one call (the guide's Derived/Test/ToyasCard.lean, 'card_holds'). Laid BY PROGRAM, IN A SANDBOX (cutbox-door.mjs). By AI agents, Wed Nov 11 2026. No macro, syntax, notation, axiom, sorry.
-/
import Derived.Test.YtcmfepaffhnemaaGreatDoorRows
import GoSem.ClaimSeven
namespace Go.Proofs.YtcmfepaffhnemaaGreatDoor
namespace Rows

/-- THE TIED CARD OF 'relucertlaw50.ReuseDiff'. -/
def reuseDiffCard : Claim7 := { stood := { row := reuseDiffRow, standIns := [], harness := (true, "bba36ae8a278190cd16b89856ac03c8f120ea71d87c7f8d4ac15364a7bc1c15d"), looks := false }, kinds := [], alts := [], laidByText := true, laidKinds := [.data, .data, .data, .data], laidTests := true, laidLooks := .later }
def ReuseDiffCardSaid : Prop := Claim7.holds Tryz.pinned (.plain (OpenSpec.ofChange reuseDiffSpec)) reuseDiffCard

/-- THE TIED CARD OF 'relucertlaw50.ReuseDiffers'. -/
def reuseDiffersCard : Claim7 := { stood := { row := reuseDiffersRow, standIns := [], harness := (true, "bba36ae8a278190cd16b89856ac03c8f120ea71d87c7f8d4ac15364a7bc1c15d"), looks := false }, kinds := [], alts := [], laidByText := true, laidKinds := [.data, .data, .data, .data], laidTests := true, laidLooks := .later }
def ReuseDiffersCardSaid : Prop := Claim7.holds Tryz.pinned (.plain (OpenSpec.ofChange reuseDiffersSpec)) reuseDiffersCard

/-- THE SECOND FORM's CARD OF 'relucertlaw50.ReuseDiff'. -/
def reuseDiffUptoCard : Claim7 := { stood := { row := reuseDiffUptoRow, standIns := [], harness := (true, "bba36ae8a278190cd16b89856ac03c8f120ea71d87c7f8d4ac15364a7bc1c15d"), looks := false }, kinds := [], alts := [], laidByText := true, laidKinds := [.data, .data, .data, .data], laidTests := true, laidLooks := .later }
def ReuseDiffUptoCardSaid : Prop := Claim7.holds Tryz.pinned (.plain (OpenSpec.upto reuseDiffSpec)) reuseDiffUptoCard

/-- THE SECOND FORM's CARD OF 'relucertlaw50.ReuseDiffers'. -/
def reuseDiffersUptoCard : Claim7 := { stood := { row := reuseDiffersUptoRow, standIns := [], harness := (true, "bba36ae8a278190cd16b89856ac03c8f120ea71d87c7f8d4ac15364a7bc1c15d"), looks := false }, kinds := [], alts := [], laidByText := true, laidKinds := [.data, .data, .data, .data], laidTests := true, laidLooks := .later }
def ReuseDiffersUptoCardSaid : Prop := Claim7.holds Tryz.pinned (.plain (OpenSpec.upto reuseDiffersSpec)) reuseDiffersUptoCard
end Rows
end Go.Proofs.YtcmfepaffhnemaaGreatDoor
