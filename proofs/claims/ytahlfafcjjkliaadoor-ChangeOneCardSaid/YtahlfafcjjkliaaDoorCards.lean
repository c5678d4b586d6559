/-
  DERIVED. GIVEN WITH THE SEED: THE CARDS: each row of YtahlfafcjjkliaaDoorRows.lean that lists a variable, with what it lists TIED to the program's text (the seventh form; the later family's looks); each row that meets fmt, with fmt's text TOLD by the authors' own Lean function (tested against real Go, not proved from fmt's source: count such statements apart). THE CARD IS WHAT COUNTS. Prove the row's statement (the work); the ties are given (YtahlfafcjjkliaaDoorTie.lean); close each card by the builder's one call (the guide's Derived/Test/ToyasCard.lean, 'card_holds'). Laid BY PROGRAM, IN A SANDBOX (cutbox-door.mjs). By AI agents, Wed Nov 11 2026. No macro, syntax, notation, axiom, sorry.
-/
import Derived.Test.YtahlfafcjjkliaaDoorRows
import GoSem.ClaimSeven
namespace Go.Proofs.YtahlfafcjjkliaaDoor
namespace Rows

/-- THE TIED CARD OF 'ricklaw12.TreeTells'. -/
def treeTellsCard : Claim7 := { stood := { row := treeTellsRow, standIns := [], harness := (true, "80f5cf8463b16c2863f43cf11a405ac11742aac73c143bc1b9be6b9b099cc2ac"), looks := false }, kinds := [], alts := [], laidByText := true, laidKinds := [.data, .pinned], laidTests := true, laidLooks := .later }
def TreeTellsCardSaid : Prop := Claim7.holds Tryd.pinned (.plain (OpenSpec.ofChange treeTellsSpec)) treeTellsCard

/-- THE TIED CARD OF 'ricklaw12.TreePuts'. -/
def treePutsCard : Claim7 := { stood := { row := treePutsRow, standIns := [], harness := (true, "80f5cf8463b16c2863f43cf11a405ac11742aac73c143bc1b9be6b9b099cc2ac"), looks := false }, kinds := [], alts := [], laidByText := true, laidKinds := [.data, .pinned], laidTests := true, laidLooks := .later }
def TreePutsCardSaid : Prop := Claim7.holds Tryd.pinned (.plain (OpenSpec.ofChange treePutsSpec)) treePutsCard

/-- THE TIED CARD OF 'ricklaw12.TreeLeads'. -/
def treeLeadsCard : Claim7 := { stood := { row := treeLeadsRow, standIns := [], harness := (true, "80f5cf8463b16c2863f43cf11a405ac11742aac73c143bc1b9be6b9b099cc2ac"), looks := false }, kinds := [], alts := [], laidByText := true, laidKinds := [.data, .pinned], laidTests := true, laidLooks := .later }
def TreeLeadsCardSaid : Prop := Claim7.holds Tryd.pinned (.plain (OpenSpec.ofChange treeLeadsSpec)) treeLeadsCard

/-- THE TIED CARD OF 'ricklaw12.TreeClashes'. -/
def treeClashesCard : Claim7 := { stood := { row := treeClashesRow, standIns := [], harness := (true, "80f5cf8463b16c2863f43cf11a405ac11742aac73c143bc1b9be6b9b099cc2ac"), looks := false }, kinds := [], alts := [], laidByText := true, laidKinds := [.data, .pinned], laidTests := true, laidLooks := .later }
def TreeClashesCardSaid : Prop := Claim7.holds Tryd.pinned (.plain (OpenSpec.ofChange treeClashesSpec)) treeClashesCard

/-- THE TIED CARD OF 'ricklaw12.TreeFull'. -/
def treeFullCard : Claim7 := { stood := { row := treeFullRow, standIns := [], harness := (true, "80f5cf8463b16c2863f43cf11a405ac11742aac73c143bc1b9be6b9b099cc2ac"), looks := false }, kinds := [], alts := [], laidByText := true, laidKinds := [.data, .pinned], laidTests := true, laidLooks := .later }
def TreeFullCardSaid : Prop := Claim7.holds Tryd.pinned (.plain (OpenSpec.ofChange treeFullSpec)) treeFullCard

/-- THE TIED CARD OF 'ricklaw22.ChangeSplits'. -/
def changeSplitsCard : Claim7 := { stood := { row := changeSplitsRow, standIns := [], harness := (true, "80f5cf8463b16c2863f43cf11a405ac11742aac73c143bc1b9be6b9b099cc2ac"), looks := false }, kinds := [], alts := [], laidByText := true, laidKinds := [.data, .pinned], laidTests := true, laidLooks := .later }
def ChangeSplitsCardSaid : Prop := Claim7.holds Tryd.pinned (.plain (OpenSpec.ofChange changeSplitsSpec)) changeSplitsCard

/-- THE TIED CARD OF 'ricklaw22.ChangeToucher'. -/
def changeToucherCard : Claim7 := { stood := { row := changeToucherRow, standIns := [], harness := (true, "80f5cf8463b16c2863f43cf11a405ac11742aac73c143bc1b9be6b9b099cc2ac"), looks := false }, kinds := [], alts := [], laidByText := true, laidKinds := [.data, .pinned], laidTests := true, laidLooks := .later }
def ChangeToucherCardSaid : Prop := Claim7.holds Tryd.pinned (.plain (OpenSpec.ofChange changeToucherSpec)) changeToucherCard

/-- THE TIED CARD OF 'ricklaw22.ChangeOne'. -/
def changeOneCard : Claim7 := { stood := { row := changeOneRow, standIns := [], harness := (true, "80f5cf8463b16c2863f43cf11a405ac11742aac73c143bc1b9be6b9b099cc2ac"), looks := false }, kinds := [], alts := [], laidByText := true, laidKinds := [.data, .pinned], laidTests := true, laidLooks := .later }
def ChangeOneCardSaid : Prop := Claim7.holds Tryd.pinned (.plain (OpenSpec.ofChange changeOneSpec)) changeOneCard

/-- THE SECOND FORM's CARD OF 'ricklaw12.TreeTells'. -/
def treeTellsUptoCard : Claim7 := { stood := { row := treeTellsUptoRow, standIns := [], harness := (true, "80f5cf8463b16c2863f43cf11a405ac11742aac73c143bc1b9be6b9b099cc2ac"), looks := false }, kinds := [], alts := [], laidByText := true, laidKinds := [.data, .pinned], laidTests := true, laidLooks := .later }
def TreeTellsUptoCardSaid : Prop := Claim7.holds Tryd.pinned (.plain (OpenSpec.upto treeTellsSpec)) treeTellsUptoCard

/-- THE SECOND FORM's CARD OF 'ricklaw12.TreePuts'. -/
def treePutsUptoCard : Claim7 := { stood := { row := treePutsUptoRow, standIns := [], harness := (true, "80f5cf8463b16c2863f43cf11a405ac11742aac73c143bc1b9be6b9b099cc2ac"), looks := false }, kinds := [], alts := [], laidByText := true, laidKinds := [.data, .pinned], laidTests := true, laidLooks := .later }
def TreePutsUptoCardSaid : Prop := Claim7.holds Tryd.pinned (.plain (OpenSpec.upto treePutsSpec)) treePutsUptoCard

/-- THE SECOND FORM's CARD OF 'ricklaw12.TreeLeads'. -/
def treeLeadsUptoCard : Claim7 := { stood := { row := treeLeadsUptoRow, standIns := [], harness := (true, "80f5cf8463b16c2863f43cf11a405ac11742aac73c143bc1b9be6b9b099cc2ac"), looks := false }, kinds := [], alts := [], laidByText := true, laidKinds := [.data, .pinned], laidTests := true, laidLooks := .later }
def TreeLeadsUptoCardSaid : Prop := Claim7.holds Tryd.pinned (.plain (OpenSpec.upto treeLeadsSpec)) treeLeadsUptoCard

/-- THE SECOND FORM's CARD OF 'ricklaw12.TreeClashes'. -/
def treeClashesUptoCard : Claim7 := { stood := { row := treeClashesUptoRow, standIns := [], harness := (true, "80f5cf8463b16c2863f43cf11a405ac11742aac73c143bc1b9be6b9b099cc2ac"), looks := false }, kinds := [], alts := [], laidByText := true, laidKinds := [.data, .pinned], laidTests := true, laidLooks := .later }
def TreeClashesUptoCardSaid : Prop := Claim7.holds Tryd.pinned (.plain (OpenSpec.upto treeClashesSpec)) treeClashesUptoCard

/-- THE SECOND FORM's CARD OF 'ricklaw12.TreeFull'. -/
def treeFullUptoCard : Claim7 := { stood := { row := treeFullUptoRow, standIns := [], harness := (true, "80f5cf8463b16c2863f43cf11a405ac11742aac73c143bc1b9be6b9b099cc2ac"), looks := false }, kinds := [], alts := [], laidByText := true, laidKinds := [.data, .pinned], laidTests := true, laidLooks := .later }
def TreeFullUptoCardSaid : Prop := Claim7.holds Tryd.pinned (.plain (OpenSpec.upto treeFullSpec)) treeFullUptoCard

/-- THE SECOND FORM's CARD OF 'ricklaw22.ChangeSplits'. -/
def changeSplitsUptoCard : Claim7 := { stood := { row := changeSplitsUptoRow, standIns := [], harness := (true, "80f5cf8463b16c2863f43cf11a405ac11742aac73c143bc1b9be6b9b099cc2ac"), looks := false }, kinds := [], alts := [], laidByText := true, laidKinds := [.data, .pinned], laidTests := true, laidLooks := .later }
def ChangeSplitsUptoCardSaid : Prop := Claim7.holds Tryd.pinned (.plain (OpenSpec.upto changeSplitsSpec)) changeSplitsUptoCard

/-- THE SECOND FORM's CARD OF 'ricklaw22.ChangeToucher'. -/
def changeToucherUptoCard : Claim7 := { stood := { row := changeToucherUptoRow, standIns := [], harness := (true, "80f5cf8463b16c2863f43cf11a405ac11742aac73c143bc1b9be6b9b099cc2ac"), looks := false }, kinds := [], alts := [], laidByText := true, laidKinds := [.data, .pinned], laidTests := true, laidLooks := .later }
def ChangeToucherUptoCardSaid : Prop := Claim7.holds Tryd.pinned (.plain (OpenSpec.upto changeToucherSpec)) changeToucherUptoCard

/-- THE SECOND FORM's CARD OF 'ricklaw22.ChangeOne'. -/
def changeOneUptoCard : Claim7 := { stood := { row := changeOneUptoRow, standIns := [], harness := (true, "80f5cf8463b16c2863f43cf11a405ac11742aac73c143bc1b9be6b9b099cc2ac"), looks := false }, kinds := [], alts := [], laidByText := true, laidKinds := [.data, .pinned], laidTests := true, laidLooks := .later }
def ChangeOneUptoCardSaid : Prop := Claim7.holds Tryd.pinned (.plain (OpenSpec.upto changeOneSpec)) changeOneUptoCard
end Rows
end Go.Proofs.YtahlfafcjjkliaaDoor
