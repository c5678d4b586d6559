/-
  DERIVED. GIVEN WITH THE SEED: THE CARDS: each row of YtcemkikgaeghjaaGreatDoorRows.lean that lists a variable, with what it lists TIED to the program's text (the seventh form; the later family's looks); each row that meets fmt, with fmt's text TOLD by the authors' own Lean function (tested against real Go, not proved from fmt's source: count such statements apart). THE CARD IS WHAT COUNTS. Prove the row's statement (the work); the ties are given (YtcemkikgaeghjaaGreatDoorTie.lean); close each card by the builder's one call (the guide's Derived/Test/ToyasCard.lean, 'card_holds'). Laid BY PROGRAM, IN A SANDBOX (cutbox-door.mjs). By AI agents, Wed Nov 11 2026. No macro, syntax, notation, axiom, sorry.
-/
import Derived.Test.YtcemkikgaeghjaaGreatDoorRows
import GoSem.ClaimSeven
namespace Go.Proofs.YtcemkikgaeghjaaGreatDoor
namespace Rows

/-- THE TIED CARD OF 'ricklaw14.TreemergeTells'. -/
def treemergeTellsCard : Claim7 := { stood := { row := treemergeTellsRow, standIns := [], harness := (true, "14f5e6dbb2a3a466ed5cbeec07f1c835dada79941cb1c5cebd74e184adf3d804"), looks := false }, kinds := [], alts := [], laidByText := true, laidKinds := [.data, .pinned], laidTests := true, laidLooks := .later }
def TreemergeTellsCardSaid : Prop := Claim7.holds Tryz.pinned (.plain (OpenSpec.ofChange treemergeTellsSpec)) treemergeTellsCard

/-- THE TIED CARD OF 'ricklaw14.TreemergeOne'. -/
def treemergeOneCard : Claim7 := { stood := { row := treemergeOneRow, standIns := [], harness := (true, "14f5e6dbb2a3a466ed5cbeec07f1c835dada79941cb1c5cebd74e184adf3d804"), looks := false }, kinds := [], alts := [], laidByText := true, laidKinds := [.data, .pinned], laidTests := true, laidLooks := .later }
def TreemergeOneCardSaid : Prop := Claim7.holds Tryz.pinned (.plain (OpenSpec.ofChange treemergeOneSpec)) treemergeOneCard

/-- THE TIED CARD OF 'ricklaw14.TreemergePaths'. -/
def treemergePathsCard : Claim7 := { stood := { row := treemergePathsRow, standIns := [], harness := (true, "14f5e6dbb2a3a466ed5cbeec07f1c835dada79941cb1c5cebd74e184adf3d804"), looks := false }, kinds := [], alts := [], laidByText := true, laidKinds := [.data, .pinned], laidTests := true, laidLooks := .later }
def TreemergePathsCardSaid : Prop := Claim7.holds Tryz.pinned (.plain (OpenSpec.ofChange treemergePathsSpec)) treemergePathsCard

/-- THE TIED CARD OF 'ricklaw14.TreemergeMoves'. -/
def treemergeMovesCard : Claim7 := { stood := { row := treemergeMovesRow, standIns := [], harness := (true, "14f5e6dbb2a3a466ed5cbeec07f1c835dada79941cb1c5cebd74e184adf3d804"), looks := false }, kinds := [], alts := [], laidByText := true, laidKinds := [.data, .pinned], laidTests := true, laidLooks := .later }
def TreemergeMovesCardSaid : Prop := Claim7.holds Tryz.pinned (.plain (OpenSpec.ofChange treemergeMovesSpec)) treemergeMovesCard

/-- THE TIED CARD OF 'ricklaw14.TreemergeDeletes'. -/
def treemergeDeletesCard : Claim7 := { stood := { row := treemergeDeletesRow, standIns := [], harness := (true, "14f5e6dbb2a3a466ed5cbeec07f1c835dada79941cb1c5cebd74e184adf3d804"), looks := false }, kinds := [], alts := [], laidByText := true, laidKinds := [.data, .pinned], laidTests := true, laidLooks := .later }
def TreemergeDeletesCardSaid : Prop := Claim7.holds Tryz.pinned (.plain (OpenSpec.ofChange treemergeDeletesSpec)) treemergeDeletesCard

/-- THE TIED CARD OF 'ricklaw14.TreemergeAdds'. -/
def treemergeAddsCard : Claim7 := { stood := { row := treemergeAddsRow, standIns := [], harness := (true, "14f5e6dbb2a3a466ed5cbeec07f1c835dada79941cb1c5cebd74e184adf3d804"), looks := false }, kinds := [], alts := [], laidByText := true, laidKinds := [.data, .pinned], laidTests := true, laidLooks := .later }
def TreemergeAddsCardSaid : Prop := Claim7.holds Tryz.pinned (.plain (OpenSpec.ofChange treemergeAddsSpec)) treemergeAddsCard

/-- THE TIED CARD OF 'ricklaw14.TreemergeTurned'. -/
def treemergeTurnedCard : Claim7 := { stood := { row := treemergeTurnedRow, standIns := [], harness := (true, "14f5e6dbb2a3a466ed5cbeec07f1c835dada79941cb1c5cebd74e184adf3d804"), looks := false }, kinds := [], alts := [], laidByText := true, laidKinds := [.data, .pinned], laidTests := true, laidLooks := .later }
def TreemergeTurnedCardSaid : Prop := Claim7.holds Tryz.pinned (.plain (OpenSpec.ofChange treemergeTurnedSpec)) treemergeTurnedCard

/-- THE SECOND FORM's CARD OF 'ricklaw14.TreemergeTells'. -/
def treemergeTellsUptoCard : Claim7 := { stood := { row := treemergeTellsUptoRow, standIns := [], harness := (true, "14f5e6dbb2a3a466ed5cbeec07f1c835dada79941cb1c5cebd74e184adf3d804"), looks := false }, kinds := [], alts := [], laidByText := true, laidKinds := [.data, .pinned], laidTests := true, laidLooks := .later }
def TreemergeTellsUptoCardSaid : Prop := Claim7.holds Tryz.pinned (.plain (OpenSpec.upto treemergeTellsSpec)) treemergeTellsUptoCard

/-- THE SECOND FORM's CARD OF 'ricklaw14.TreemergeOne'. -/
def treemergeOneUptoCard : Claim7 := { stood := { row := treemergeOneUptoRow, standIns := [], harness := (true, "14f5e6dbb2a3a466ed5cbeec07f1c835dada79941cb1c5cebd74e184adf3d804"), looks := false }, kinds := [], alts := [], laidByText := true, laidKinds := [.data, .pinned], laidTests := true, laidLooks := .later }
def TreemergeOneUptoCardSaid : Prop := Claim7.holds Tryz.pinned (.plain (OpenSpec.upto treemergeOneSpec)) treemergeOneUptoCard

/-- THE SECOND FORM's CARD OF 'ricklaw14.TreemergePaths'. -/
def treemergePathsUptoCard : Claim7 := { stood := { row := treemergePathsUptoRow, standIns := [], harness := (true, "14f5e6dbb2a3a466ed5cbeec07f1c835dada79941cb1c5cebd74e184adf3d804"), looks := false }, kinds := [], alts := [], laidByText := true, laidKinds := [.data, .pinned], laidTests := true, laidLooks := .later }
def TreemergePathsUptoCardSaid : Prop := Claim7.holds Tryz.pinned (.plain (OpenSpec.upto treemergePathsSpec)) treemergePathsUptoCard

/-- THE SECOND FORM's CARD OF 'ricklaw14.TreemergeMoves'. -/
def treemergeMovesUptoCard : Claim7 := { stood := { row := treemergeMovesUptoRow, standIns := [], harness := (true, "14f5e6dbb2a3a466ed5cbeec07f1c835dada79941cb1c5cebd74e184adf3d804"), looks := false }, kinds := [], alts := [], laidByText := true, laidKinds := [.data, .pinned], laidTests := true, laidLooks := .later }
def TreemergeMovesUptoCardSaid : Prop := Claim7.holds Tryz.pinned (.plain (OpenSpec.upto treemergeMovesSpec)) treemergeMovesUptoCard

/-- THE SECOND FORM's CARD OF 'ricklaw14.TreemergeDeletes'. -/
def treemergeDeletesUptoCard : Claim7 := { stood := { row := treemergeDeletesUptoRow, standIns := [], harness := (true, "14f5e6dbb2a3a466ed5cbeec07f1c835dada79941cb1c5cebd74e184adf3d804"), looks := false }, kinds := [], alts := [], laidByText := true, laidKinds := [.data, .pinned], laidTests := true, laidLooks := .later }
def TreemergeDeletesUptoCardSaid : Prop := Claim7.holds Tryz.pinned (.plain (OpenSpec.upto treemergeDeletesSpec)) treemergeDeletesUptoCard

/-- THE SECOND FORM's CARD OF 'ricklaw14.TreemergeAdds'. -/
def treemergeAddsUptoCard : Claim7 := { stood := { row := treemergeAddsUptoRow, standIns := [], harness := (true, "14f5e6dbb2a3a466ed5cbeec07f1c835dada79941cb1c5cebd74e184adf3d804"), looks := false }, kinds := [], alts := [], laidByText := true, laidKinds := [.data, .pinned], laidTests := true, laidLooks := .later }
def TreemergeAddsUptoCardSaid : Prop := Claim7.holds Tryz.pinned (.plain (OpenSpec.upto treemergeAddsSpec)) treemergeAddsUptoCard

/-- THE SECOND FORM's CARD OF 'ricklaw14.TreemergeTurned'. -/
def treemergeTurnedUptoCard : Claim7 := { stood := { row := treemergeTurnedUptoRow, standIns := [], harness := (true, "14f5e6dbb2a3a466ed5cbeec07f1c835dada79941cb1c5cebd74e184adf3d804"), looks := false }, kinds := [], alts := [], laidByText := true, laidKinds := [.data, .pinned], laidTests := true, laidLooks := .later }
def TreemergeTurnedUptoCardSaid : Prop := Claim7.holds Tryz.pinned (.plain (OpenSpec.upto treemergeTurnedSpec)) treemergeTurnedUptoCard
end Rows
end Go.Proofs.YtcemkikgaeghjaaGreatDoor
