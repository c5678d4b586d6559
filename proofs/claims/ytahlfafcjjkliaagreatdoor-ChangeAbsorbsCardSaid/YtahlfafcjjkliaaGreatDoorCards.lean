/-
  DERIVED. GIVEN WITH THE SEED: THE CARDS: each row of YtahlfafcjjkliaaGreatDoorRows.lean that lists a variable, with what it lists TIED to the program's text (the seventh form; the later family's looks); each row that meets fmt, with fmt's text TOLD by the authors' own Lean function (tested against real Go, not proved from fmt's source: count such statements apart). THE CARD IS WHAT COUNTS. Prove the row's statement (the work); the ties are given (YtahlfafcjjkliaaGreatDoorTie.lean); close each card by the builder's one call (the guide's Derived/Test/ToyasCard.lean, 'card_holds'). Laid BY PROGRAM, IN A SANDBOX (cutbox-door.mjs). By AI agents, Wed Nov 11 2026. No macro, syntax, notation, axiom, sorry.
-/
import Derived.Test.YtahlfafcjjkliaaGreatDoorRows
import GoSem.ClaimSeven
namespace Go.Proofs.YtahlfafcjjkliaaGreatDoor
namespace Rows

/-- THE TIED CARD OF 'ricklaw12.TreeApplies'. -/
def treeAppliesCard : Claim7 := { stood := { row := treeAppliesRow, standIns := [], harness := (true, "0ba8071f72eaafb0d4320363e190117468af119b857818e4c0aa5fd479223280"), looks := false }, kinds := [], alts := [], laidByText := true, laidKinds := [.data, .pinned], laidTests := true, laidLooks := .later }
def TreeAppliesCardSaid : Prop := Claim7.holds Tryz.pinned (.plain (OpenSpec.ofChange treeAppliesSpec)) treeAppliesCard

/-- THE TIED CARD OF 'ricklaw22.ChangeTells'. -/
def changeTellsCard : Claim7 := { stood := { row := changeTellsRow, standIns := [], harness := (true, "0ba8071f72eaafb0d4320363e190117468af119b857818e4c0aa5fd479223280"), looks := false }, kinds := [], alts := [], laidByText := true, laidKinds := [.data, .pinned], laidTests := true, laidLooks := .later }
def ChangeTellsCardSaid : Prop := Claim7.holds Tryz.pinned (.plain (OpenSpec.ofChange changeTellsSpec)) changeTellsCard

/-- THE TIED CARD OF 'ricklaw22.ChangeAbsorbs'. -/
def changeAbsorbsCard : Claim7 := { stood := { row := changeAbsorbsRow, standIns := [], harness := (true, "0ba8071f72eaafb0d4320363e190117468af119b857818e4c0aa5fd479223280"), looks := false }, kinds := [], alts := [], laidByText := true, laidKinds := [.data, .pinned], laidTests := true, laidLooks := .later }
def ChangeAbsorbsCardSaid : Prop := Claim7.holds Tryz.pinned (.plain (OpenSpec.ofChange changeAbsorbsSpec)) changeAbsorbsCard

/-- THE SECOND FORM's CARD OF 'ricklaw12.TreeApplies'. -/
def treeAppliesUptoCard : Claim7 := { stood := { row := treeAppliesUptoRow, standIns := [], harness := (true, "0ba8071f72eaafb0d4320363e190117468af119b857818e4c0aa5fd479223280"), looks := false }, kinds := [], alts := [], laidByText := true, laidKinds := [.data, .pinned], laidTests := true, laidLooks := .later }
def TreeAppliesUptoCardSaid : Prop := Claim7.holds Tryz.pinned (.plain (OpenSpec.upto treeAppliesSpec)) treeAppliesUptoCard

/-- THE SECOND FORM's CARD OF 'ricklaw22.ChangeTells'. -/
def changeTellsUptoCard : Claim7 := { stood := { row := changeTellsUptoRow, standIns := [], harness := (true, "0ba8071f72eaafb0d4320363e190117468af119b857818e4c0aa5fd479223280"), looks := false }, kinds := [], alts := [], laidByText := true, laidKinds := [.data, .pinned], laidTests := true, laidLooks := .later }
def ChangeTellsUptoCardSaid : Prop := Claim7.holds Tryz.pinned (.plain (OpenSpec.upto changeTellsSpec)) changeTellsUptoCard

/-- THE SECOND FORM's CARD OF 'ricklaw22.ChangeAbsorbs'. -/
def changeAbsorbsUptoCard : Claim7 := { stood := { row := changeAbsorbsUptoRow, standIns := [], harness := (true, "0ba8071f72eaafb0d4320363e190117468af119b857818e4c0aa5fd479223280"), looks := false }, kinds := [], alts := [], laidByText := true, laidKinds := [.data, .pinned], laidTests := true, laidLooks := .later }
def ChangeAbsorbsUptoCardSaid : Prop := Claim7.holds Tryz.pinned (.plain (OpenSpec.upto changeAbsorbsSpec)) changeAbsorbsUptoCard
end Rows
end Go.Proofs.YtahlfafcjjkliaaGreatDoor
