/-
  DERIVED. GIVEN WITH THE SEED: THE CARDS: each row of YtohblmepajhpaaaGreatDoorRows.lean that lists a variable, with what it lists TIED to the program's text (the seventh form; the later family's looks); each row that meets fmt, with fmt's text TOLD by the authors' own Lean function (tested against real Go, not proved from fmt's source: count such statements apart). THE CARD IS WHAT COUNTS. Prove the row's statement (the work); the ties are given (YtohblmepajhpaaaGreatDoorTie.lean); close each card by the builder's one call (the guide's Derived/Test/ToyasCard.lean, 'card_holds'). Laid BY PROGRAM, IN A SANDBOX (cutbox-door.mjs). By AI agents, Wed Nov 11 2026. No macro, syntax, notation, axiom, sorry.
-/
import Derived.Test.YtohblmepajhpaaaGreatDoorRows
import GoSem.ClaimSeven
namespace Go.Proofs.YtohblmepajhpaaaGreatDoor
namespace Rows

/-- THE TIED CARD OF 'ricklaw24.MoveStands'. -/
def moveStandsCard : Claim7 := { stood := { row := moveStandsRow, standIns := [], harness := (true, "e8eded7792efc192a131ef09a9c7269181950eec5fd3dc22867ad6de6b288c3d"), looks := false }, kinds := [], alts := [], laidByText := true, laidKinds := [.data, .pinned], laidTests := true, laidLooks := .later }
def MoveStandsCardSaid : Prop := Claim7.holds Tryz.pinned (.plain (OpenSpec.ofChange moveStandsSpec)) moveStandsCard

/-- THE TIED CARD OF 'ricklaw24.MoveSettles'. -/
def moveSettlesCard : Claim7 := { stood := { row := moveSettlesRow, standIns := [], harness := (true, "e8eded7792efc192a131ef09a9c7269181950eec5fd3dc22867ad6de6b288c3d"), looks := false }, kinds := [], alts := [], laidByText := true, laidKinds := [.data, .pinned], laidTests := true, laidLooks := .later }
def MoveSettlesCardSaid : Prop := Claim7.holds Tryz.pinned (.plain (OpenSpec.ofChange moveSettlesSpec)) moveSettlesCard

/-- THE TIED CARD OF 'ricklaw24.MoveRefuses'. -/
def moveRefusesCard : Claim7 := { stood := { row := moveRefusesRow, standIns := [], harness := (true, "e8eded7792efc192a131ef09a9c7269181950eec5fd3dc22867ad6de6b288c3d"), looks := false }, kinds := [], alts := [], laidByText := true, laidKinds := [.data, .pinned], laidTests := true, laidLooks := .later }
def MoveRefusesCardSaid : Prop := Claim7.holds Tryz.pinned (.plain (OpenSpec.ofChange moveRefusesSpec)) moveRefusesCard

/-- THE TIED CARD OF 'ricklaw24.MoveApart'. -/
def moveApartCard : Claim7 := { stood := { row := moveApartRow, standIns := [], harness := (true, "e8eded7792efc192a131ef09a9c7269181950eec5fd3dc22867ad6de6b288c3d"), looks := false }, kinds := [], alts := [], laidByText := true, laidKinds := [.data, .pinned], laidTests := true, laidLooks := .later }
def MoveApartCardSaid : Prop := Claim7.holds Tryz.pinned (.plain (OpenSpec.ofChange moveApartSpec)) moveApartCard

/-- THE TIED CARD OF 'ricklaw24.MoveTells'. -/
def moveTellsCard : Claim7 := { stood := { row := moveTellsRow, standIns := [], harness := (true, "e8eded7792efc192a131ef09a9c7269181950eec5fd3dc22867ad6de6b288c3d"), looks := false }, kinds := [], alts := [], laidByText := true, laidKinds := [.data, .pinned], laidTests := true, laidLooks := .later }
def MoveTellsCardSaid : Prop := Claim7.holds Tryz.pinned (.plain (OpenSpec.ofChange moveTellsSpec)) moveTellsCard

/-- THE TIED CARD OF 'ricklaw24.MoveRestacks'. -/
def moveRestacksCard : Claim7 := { stood := { row := moveRestacksRow, standIns := [], harness := (true, "e8eded7792efc192a131ef09a9c7269181950eec5fd3dc22867ad6de6b288c3d"), looks := false }, kinds := [], alts := [], laidByText := true, laidKinds := [.data, .pinned], laidTests := true, laidLooks := .later }
def MoveRestacksCardSaid : Prop := Claim7.holds Tryz.pinned (.plain (OpenSpec.ofChange moveRestacksSpec)) moveRestacksCard

/-- THE SECOND FORM's CARD OF 'ricklaw24.MoveStands'. -/
def moveStandsUptoCard : Claim7 := { stood := { row := moveStandsUptoRow, standIns := [], harness := (true, "e8eded7792efc192a131ef09a9c7269181950eec5fd3dc22867ad6de6b288c3d"), looks := false }, kinds := [], alts := [], laidByText := true, laidKinds := [.data, .pinned], laidTests := true, laidLooks := .later }
def MoveStandsUptoCardSaid : Prop := Claim7.holds Tryz.pinned (.plain (OpenSpec.upto moveStandsSpec)) moveStandsUptoCard

/-- THE SECOND FORM's CARD OF 'ricklaw24.MoveSettles'. -/
def moveSettlesUptoCard : Claim7 := { stood := { row := moveSettlesUptoRow, standIns := [], harness := (true, "e8eded7792efc192a131ef09a9c7269181950eec5fd3dc22867ad6de6b288c3d"), looks := false }, kinds := [], alts := [], laidByText := true, laidKinds := [.data, .pinned], laidTests := true, laidLooks := .later }
def MoveSettlesUptoCardSaid : Prop := Claim7.holds Tryz.pinned (.plain (OpenSpec.upto moveSettlesSpec)) moveSettlesUptoCard

/-- THE SECOND FORM's CARD OF 'ricklaw24.MoveRefuses'. -/
def moveRefusesUptoCard : Claim7 := { stood := { row := moveRefusesUptoRow, standIns := [], harness := (true, "e8eded7792efc192a131ef09a9c7269181950eec5fd3dc22867ad6de6b288c3d"), looks := false }, kinds := [], alts := [], laidByText := true, laidKinds := [.data, .pinned], laidTests := true, laidLooks := .later }
def MoveRefusesUptoCardSaid : Prop := Claim7.holds Tryz.pinned (.plain (OpenSpec.upto moveRefusesSpec)) moveRefusesUptoCard

/-- THE SECOND FORM's CARD OF 'ricklaw24.MoveApart'. -/
def moveApartUptoCard : Claim7 := { stood := { row := moveApartUptoRow, standIns := [], harness := (true, "e8eded7792efc192a131ef09a9c7269181950eec5fd3dc22867ad6de6b288c3d"), looks := false }, kinds := [], alts := [], laidByText := true, laidKinds := [.data, .pinned], laidTests := true, laidLooks := .later }
def MoveApartUptoCardSaid : Prop := Claim7.holds Tryz.pinned (.plain (OpenSpec.upto moveApartSpec)) moveApartUptoCard

/-- THE SECOND FORM's CARD OF 'ricklaw24.MoveTells'. -/
def moveTellsUptoCard : Claim7 := { stood := { row := moveTellsUptoRow, standIns := [], harness := (true, "e8eded7792efc192a131ef09a9c7269181950eec5fd3dc22867ad6de6b288c3d"), looks := false }, kinds := [], alts := [], laidByText := true, laidKinds := [.data, .pinned], laidTests := true, laidLooks := .later }
def MoveTellsUptoCardSaid : Prop := Claim7.holds Tryz.pinned (.plain (OpenSpec.upto moveTellsSpec)) moveTellsUptoCard

/-- THE SECOND FORM's CARD OF 'ricklaw24.MoveRestacks'. -/
def moveRestacksUptoCard : Claim7 := { stood := { row := moveRestacksUptoRow, standIns := [], harness := (true, "e8eded7792efc192a131ef09a9c7269181950eec5fd3dc22867ad6de6b288c3d"), looks := false }, kinds := [], alts := [], laidByText := true, laidKinds := [.data, .pinned], laidTests := true, laidLooks := .later }
def MoveRestacksUptoCardSaid : Prop := Claim7.holds Tryz.pinned (.plain (OpenSpec.upto moveRestacksSpec)) moveRestacksUptoCard
end Rows
end Go.Proofs.YtohblmepajhpaaaGreatDoor
