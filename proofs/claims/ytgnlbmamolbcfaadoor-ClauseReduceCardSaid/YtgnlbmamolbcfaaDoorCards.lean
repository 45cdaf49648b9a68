/-
  DERIVED. GIVEN WITH THE SEED: THE CARDS: each row of YtgnlbmamolbcfaaDoorRows.lean that lists a variable, with what it lists TIED to the program's text (the seventh form; the later family's looks); each row that meets fmt, with fmt's text TOLD by the authors' own Lean function (tested against real Go, not proved from fmt's source: count such statements apart). THE CARD IS WHAT COUNTS. Prove the row's statement (the work); the ties are given (YtgnlbmamolbcfaaDoorTie.lean); close each card by the builder's one call (the guide's Derived/Test/ToyasCard.lean, 'card_holds'). Laid BY PROGRAM, IN A SANDBOX (cutbox-door.mjs). By AI agents, Wed Nov 11 2026. No macro, syntax, notation, axiom, sorry.
-/
import Derived.Test.YtgnlbmamolbcfaaDoorRows
import GoSem.ClaimSeven
namespace Go.Proofs.YtgnlbmamolbcfaaDoor
namespace Rows

/-- THE TIED CARD OF 'relucertlaw35.ClauseSubsumes'. -/
def clauseSubsumesCard : Claim7 := { stood := { row := clauseSubsumesRow, standIns := [], harness := (true, "5ee1ee4d1b7607f8d21af437c43c654ca9d300ff4ca2f3dc4aa27e177de49b57"), looks := false }, kinds := [], alts := [], laidByText := true, laidKinds := [.data, .data, .data], laidTests := true, laidLooks := .later }
def ClauseSubsumesCardSaid : Prop := Claim7.holds Tryd.pinned (.plain (OpenSpec.ofChange clauseSubsumesSpec)) clauseSubsumesCard

/-- THE TIED CARD OF 'relucertlaw35.ClauseResolve'. -/
def clauseResolveCard : Claim7 := { stood := { row := clauseResolveRow, standIns := [], harness := (true, "5ee1ee4d1b7607f8d21af437c43c654ca9d300ff4ca2f3dc4aa27e177de49b57"), looks := false }, kinds := [], alts := [], laidByText := true, laidKinds := [.data, .data, .data], laidTests := true, laidLooks := .later }
def ClauseResolveCardSaid : Prop := Claim7.holds Tryd.pinned (.plain (OpenSpec.ofChange clauseResolveSpec)) clauseResolveCard

/-- THE TIED CARD OF 'relucertlaw35.ClauseSound'. -/
def clauseSoundCard : Claim7 := { stood := { row := clauseSoundRow, standIns := [], harness := (true, "5ee1ee4d1b7607f8d21af437c43c654ca9d300ff4ca2f3dc4aa27e177de49b57"), looks := false }, kinds := [], alts := [], laidByText := true, laidKinds := [.data, .data, .data], laidTests := true, laidLooks := .later }
def ClauseSoundCardSaid : Prop := Claim7.holds Tryd.pinned (.plain (OpenSpec.ofChange clauseSoundSpec)) clauseSoundCard

/-- THE TIED CARD OF 'relucertlaw35.ClauseStatus'. -/
def clauseStatusCard : Claim7 := { stood := { row := clauseStatusRow, standIns := [], harness := (true, "5ee1ee4d1b7607f8d21af437c43c654ca9d300ff4ca2f3dc4aa27e177de49b57"), looks := false }, kinds := [], alts := [], laidByText := true, laidKinds := [.data, .data, .data], laidTests := true, laidLooks := .later }
def ClauseStatusCardSaid : Prop := Claim7.holds Tryd.pinned (.plain (OpenSpec.ofChange clauseStatusSpec)) clauseStatusCard

/-- THE TIED CARD OF 'relucertlaw35.ClauseImplies'. -/
def clauseImpliesCard : Claim7 := { stood := { row := clauseImpliesRow, standIns := [], harness := (true, "5ee1ee4d1b7607f8d21af437c43c654ca9d300ff4ca2f3dc4aa27e177de49b57"), looks := false }, kinds := [], alts := [], laidByText := true, laidKinds := [.data, .data, .data], laidTests := true, laidLooks := .later }
def ClauseImpliesCardSaid : Prop := Claim7.holds Tryd.pinned (.plain (OpenSpec.ofChange clauseImpliesSpec)) clauseImpliesCard

/-- THE TIED CARD OF 'relucertlaw35.ClauseText'. -/
def clauseTextCard : Claim7 := { stood := { row := clauseTextRow, standIns := [], harness := (true, "5ee1ee4d1b7607f8d21af437c43c654ca9d300ff4ca2f3dc4aa27e177de49b57"), looks := false }, kinds := [], alts := [], laidByText := true, laidKinds := [.data, .data, .data], laidTests := true, laidLooks := .later }
def ClauseTextCardSaid : Prop := Claim7.holds Tryd.pinned (.plain (OpenSpec.ofChange clauseTextSpec)) clauseTextCard

/-- THE TIED CARD OF 'relucertlaw35.ClauseMake'. -/
def clauseMakeCard : Claim7 := { stood := { row := clauseMakeRow, standIns := [], harness := (true, "5ee1ee4d1b7607f8d21af437c43c654ca9d300ff4ca2f3dc4aa27e177de49b57"), looks := false }, kinds := [], alts := [], laidByText := true, laidKinds := [.data, .data, .data], laidTests := true, laidLooks := .later }
def ClauseMakeCardSaid : Prop := Claim7.holds Tryd.pinned (.plain (OpenSpec.ofChange clauseMakeSpec)) clauseMakeCard

/-- THE TIED CARD OF 'relucertlaw35.ClauseReduce'. -/
def clauseReduceCard : Claim7 := { stood := { row := clauseReduceRow, standIns := [], harness := (true, "5ee1ee4d1b7607f8d21af437c43c654ca9d300ff4ca2f3dc4aa27e177de49b57"), looks := false }, kinds := [], alts := [], laidByText := true, laidKinds := [.data, .data, .data], laidTests := true, laidLooks := .later }
def ClauseReduceCardSaid : Prop := Claim7.holds Tryd.pinned (.plain (OpenSpec.ofChange clauseReduceSpec)) clauseReduceCard

/-- THE SECOND FORM's CARD OF 'relucertlaw35.ClauseSubsumes'. -/
def clauseSubsumesUptoCard : Claim7 := { stood := { row := clauseSubsumesUptoRow, standIns := [], harness := (true, "5ee1ee4d1b7607f8d21af437c43c654ca9d300ff4ca2f3dc4aa27e177de49b57"), looks := false }, kinds := [], alts := [], laidByText := true, laidKinds := [.data, .data, .data], laidTests := true, laidLooks := .later }
def ClauseSubsumesUptoCardSaid : Prop := Claim7.holds Tryd.pinned (.plain (OpenSpec.upto clauseSubsumesSpec)) clauseSubsumesUptoCard

/-- THE SECOND FORM's CARD OF 'relucertlaw35.ClauseResolve'. -/
def clauseResolveUptoCard : Claim7 := { stood := { row := clauseResolveUptoRow, standIns := [], harness := (true, "5ee1ee4d1b7607f8d21af437c43c654ca9d300ff4ca2f3dc4aa27e177de49b57"), looks := false }, kinds := [], alts := [], laidByText := true, laidKinds := [.data, .data, .data], laidTests := true, laidLooks := .later }
def ClauseResolveUptoCardSaid : Prop := Claim7.holds Tryd.pinned (.plain (OpenSpec.upto clauseResolveSpec)) clauseResolveUptoCard

/-- THE SECOND FORM's CARD OF 'relucertlaw35.ClauseSound'. -/
def clauseSoundUptoCard : Claim7 := { stood := { row := clauseSoundUptoRow, standIns := [], harness := (true, "5ee1ee4d1b7607f8d21af437c43c654ca9d300ff4ca2f3dc4aa27e177de49b57"), looks := false }, kinds := [], alts := [], laidByText := true, laidKinds := [.data, .data, .data], laidTests := true, laidLooks := .later }
def ClauseSoundUptoCardSaid : Prop := Claim7.holds Tryd.pinned (.plain (OpenSpec.upto clauseSoundSpec)) clauseSoundUptoCard

/-- THE SECOND FORM's CARD OF 'relucertlaw35.ClauseStatus'. -/
def clauseStatusUptoCard : Claim7 := { stood := { row := clauseStatusUptoRow, standIns := [], harness := (true, "5ee1ee4d1b7607f8d21af437c43c654ca9d300ff4ca2f3dc4aa27e177de49b57"), looks := false }, kinds := [], alts := [], laidByText := true, laidKinds := [.data, .data, .data], laidTests := true, laidLooks := .later }
def ClauseStatusUptoCardSaid : Prop := Claim7.holds Tryd.pinned (.plain (OpenSpec.upto clauseStatusSpec)) clauseStatusUptoCard

/-- THE SECOND FORM's CARD OF 'relucertlaw35.ClauseImplies'. -/
def clauseImpliesUptoCard : Claim7 := { stood := { row := clauseImpliesUptoRow, standIns := [], harness := (true, "5ee1ee4d1b7607f8d21af437c43c654ca9d300ff4ca2f3dc4aa27e177de49b57"), looks := false }, kinds := [], alts := [], laidByText := true, laidKinds := [.data, .data, .data], laidTests := true, laidLooks := .later }
def ClauseImpliesUptoCardSaid : Prop := Claim7.holds Tryd.pinned (.plain (OpenSpec.upto clauseImpliesSpec)) clauseImpliesUptoCard

/-- THE SECOND FORM's CARD OF 'relucertlaw35.ClauseText'. -/
def clauseTextUptoCard : Claim7 := { stood := { row := clauseTextUptoRow, standIns := [], harness := (true, "5ee1ee4d1b7607f8d21af437c43c654ca9d300ff4ca2f3dc4aa27e177de49b57"), looks := false }, kinds := [], alts := [], laidByText := true, laidKinds := [.data, .data, .data], laidTests := true, laidLooks := .later }
def ClauseTextUptoCardSaid : Prop := Claim7.holds Tryd.pinned (.plain (OpenSpec.upto clauseTextSpec)) clauseTextUptoCard

/-- THE SECOND FORM's CARD OF 'relucertlaw35.ClauseMake'. -/
def clauseMakeUptoCard : Claim7 := { stood := { row := clauseMakeUptoRow, standIns := [], harness := (true, "5ee1ee4d1b7607f8d21af437c43c654ca9d300ff4ca2f3dc4aa27e177de49b57"), looks := false }, kinds := [], alts := [], laidByText := true, laidKinds := [.data, .data, .data], laidTests := true, laidLooks := .later }
def ClauseMakeUptoCardSaid : Prop := Claim7.holds Tryd.pinned (.plain (OpenSpec.upto clauseMakeSpec)) clauseMakeUptoCard

/-- THE SECOND FORM's CARD OF 'relucertlaw35.ClauseReduce'. -/
def clauseReduceUptoCard : Claim7 := { stood := { row := clauseReduceUptoRow, standIns := [], harness := (true, "5ee1ee4d1b7607f8d21af437c43c654ca9d300ff4ca2f3dc4aa27e177de49b57"), looks := false }, kinds := [], alts := [], laidByText := true, laidKinds := [.data, .data, .data], laidTests := true, laidLooks := .later }
def ClauseReduceUptoCardSaid : Prop := Claim7.holds Tryd.pinned (.plain (OpenSpec.upto clauseReduceSpec)) clauseReduceUptoCard
end Rows
end Go.Proofs.YtgnlbmamolbcfaaDoor
