/-
  DERIVED. GIVEN WITH THE SEED: THE CARDS: each row of YtbhbainhmfjpdaaGreatDoorRows.lean that lists a variable, with what it lists TIED to the program's text (the seventh form; the later family's looks); each row that meets fmt, with fmt's text TOLD by the authors' own Lean function (tested against real Go, not proved from fmt's source: count such statements apart). THE CARD IS WHAT COUNTS. Prove the row's statement (the work); the ties are given (YtbhbainhmfjpdaaGreatDoorTie.lean); close each card by the builder's one call (the guide's Derived/Test/ToyasCard.lean, 'card_holds'). Laid BY PROGRAM, IN A SANDBOX (cutbox-door.mjs). By AI agents, Wed Nov 11 2026. No macro, syntax, notation, axiom, sorry.
-/
import Derived.Test.YtbhbainhmfjpdaaGreatDoorRows
import GoSem.ClaimSeven
namespace Go.Proofs.YtbhbainhmfjpdaaGreatDoor
namespace Rows

/-- THE TIED CARD OF 'relucertlaw50.ReuseEntries'. -/
def reuseEntriesCard : Claim7 := { stood := { row := reuseEntriesRow, standIns := [], harness := (true, "f282be5d1a9894797039ad68e4565d76ae19d68fd165289ca15da9929e8a91aa"), looks := false }, kinds := [], alts := [], laidByText := true, laidKinds := [.data, .data, .data, .data], laidTests := true, laidLooks := .later }
def ReuseEntriesCardSaid : Prop := Claim7.holds Tryz.pinned (.plain (OpenSpec.ofChange reuseEntriesSpec)) reuseEntriesCard

/-- THE TIED CARD OF 'relucertlaw50.ReuseSame'. -/
def reuseSameCard : Claim7 := { stood := { row := reuseSameRow, standIns := [], harness := (true, "f282be5d1a9894797039ad68e4565d76ae19d68fd165289ca15da9929e8a91aa"), looks := false }, kinds := [], alts := [], laidByText := true, laidKinds := [.data, .data, .data, .data], laidTests := true, laidLooks := .later }
def ReuseSameCardSaid : Prop := Claim7.holds Tryz.pinned (.plain (OpenSpec.ofChange reuseSameSpec)) reuseSameCard

/-- THE TIED CARD OF 'relucertlaw50.ReuseWeaker'. -/
def reuseWeakerCard : Claim7 := { stood := { row := reuseWeakerRow, standIns := [], harness := (true, "f282be5d1a9894797039ad68e4565d76ae19d68fd165289ca15da9929e8a91aa"), looks := false }, kinds := [], alts := [], laidByText := true, laidKinds := [.data, .data, .data, .data], laidTests := true, laidLooks := .later }
def ReuseWeakerCardSaid : Prop := Claim7.holds Tryz.pinned (.plain (OpenSpec.ofChange reuseWeakerSpec)) reuseWeakerCard

/-- THE TIED CARD OF 'relucertlaw50.ReuseLocal'. -/
def reuseLocalCard : Claim7 := { stood := { row := reuseLocalRow, standIns := [], harness := (true, "f282be5d1a9894797039ad68e4565d76ae19d68fd165289ca15da9929e8a91aa"), looks := false }, kinds := [], alts := [], laidByText := true, laidKinds := [.data, .data, .data, .data], laidTests := true, laidLooks := .later }
def ReuseLocalCardSaid : Prop := Claim7.holds Tryz.pinned (.plain (OpenSpec.ofChange reuseLocalSpec)) reuseLocalCard

/-- THE TIED CARD OF 'relucertlaw50.ReuseArguments'. -/
def reuseArgumentsCard : Claim7 := { stood := { row := reuseArgumentsRow, standIns := [], harness := (true, "f282be5d1a9894797039ad68e4565d76ae19d68fd165289ca15da9929e8a91aa"), looks := false }, kinds := [], alts := [], laidByText := true, laidKinds := [.data, .data, .data, .data], laidTests := true, laidLooks := .later }
def ReuseArgumentsCardSaid : Prop := Claim7.holds Tryz.pinned (.plain (OpenSpec.ofChange reuseArgumentsSpec)) reuseArgumentsCard

/-- THE SECOND FORM's CARD OF 'relucertlaw50.ReuseEntries'. -/
def reuseEntriesUptoCard : Claim7 := { stood := { row := reuseEntriesUptoRow, standIns := [], harness := (true, "f282be5d1a9894797039ad68e4565d76ae19d68fd165289ca15da9929e8a91aa"), looks := false }, kinds := [], alts := [], laidByText := true, laidKinds := [.data, .data, .data, .data], laidTests := true, laidLooks := .later }
def ReuseEntriesUptoCardSaid : Prop := Claim7.holds Tryz.pinned (.plain (OpenSpec.upto reuseEntriesSpec)) reuseEntriesUptoCard

/-- THE SECOND FORM's CARD OF 'relucertlaw50.ReuseSame'. -/
def reuseSameUptoCard : Claim7 := { stood := { row := reuseSameUptoRow, standIns := [], harness := (true, "f282be5d1a9894797039ad68e4565d76ae19d68fd165289ca15da9929e8a91aa"), looks := false }, kinds := [], alts := [], laidByText := true, laidKinds := [.data, .data, .data, .data], laidTests := true, laidLooks := .later }
def ReuseSameUptoCardSaid : Prop := Claim7.holds Tryz.pinned (.plain (OpenSpec.upto reuseSameSpec)) reuseSameUptoCard

/-- THE SECOND FORM's CARD OF 'relucertlaw50.ReuseWeaker'. -/
def reuseWeakerUptoCard : Claim7 := { stood := { row := reuseWeakerUptoRow, standIns := [], harness := (true, "f282be5d1a9894797039ad68e4565d76ae19d68fd165289ca15da9929e8a91aa"), looks := false }, kinds := [], alts := [], laidByText := true, laidKinds := [.data, .data, .data, .data], laidTests := true, laidLooks := .later }
def ReuseWeakerUptoCardSaid : Prop := Claim7.holds Tryz.pinned (.plain (OpenSpec.upto reuseWeakerSpec)) reuseWeakerUptoCard

/-- THE SECOND FORM's CARD OF 'relucertlaw50.ReuseLocal'. -/
def reuseLocalUptoCard : Claim7 := { stood := { row := reuseLocalUptoRow, standIns := [], harness := (true, "f282be5d1a9894797039ad68e4565d76ae19d68fd165289ca15da9929e8a91aa"), looks := false }, kinds := [], alts := [], laidByText := true, laidKinds := [.data, .data, .data, .data], laidTests := true, laidLooks := .later }
def ReuseLocalUptoCardSaid : Prop := Claim7.holds Tryz.pinned (.plain (OpenSpec.upto reuseLocalSpec)) reuseLocalUptoCard

/-- THE SECOND FORM's CARD OF 'relucertlaw50.ReuseArguments'. -/
def reuseArgumentsUptoCard : Claim7 := { stood := { row := reuseArgumentsUptoRow, standIns := [], harness := (true, "f282be5d1a9894797039ad68e4565d76ae19d68fd165289ca15da9929e8a91aa"), looks := false }, kinds := [], alts := [], laidByText := true, laidKinds := [.data, .data, .data, .data], laidTests := true, laidLooks := .later }
def ReuseArgumentsUptoCardSaid : Prop := Claim7.holds Tryz.pinned (.plain (OpenSpec.upto reuseArgumentsSpec)) reuseArgumentsUptoCard
end Rows
end Go.Proofs.YtbhbainhmfjpdaaGreatDoor
