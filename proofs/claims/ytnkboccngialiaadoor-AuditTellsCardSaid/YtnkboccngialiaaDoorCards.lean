/-
  DERIVED. GIVEN WITH THE SEED: THE CARDS: each row of YtnkboccngialiaaDoorRows.lean that lists a variable, with what it lists TIED to the program's text (the seventh form; the later family's looks); each row that meets fmt, with fmt's text TOLD by the authors' own Lean function (tested against real Go, not proved from fmt's source: count such statements apart). THE CARD IS WHAT COUNTS. Prove the row's statement (the work); the ties are given (YtnkboccngialiaaDoorTie.lean); close each card by the builder's one call (the guide's Derived/Test/ToyasCard.lean, 'card_holds'). Laid BY PROGRAM, IN A SANDBOX (cutbox-door.mjs). By AI agents, Wed Nov 11 2026. No macro, syntax, notation, axiom, sorry.
-/
import Derived.Test.YtnkboccngialiaaDoorRows
import GoSem.ClaimSeven
namespace Go.Proofs.YtnkboccngialiaaDoor
namespace Rows

/-- THE TIED CARD OF 'ricklaw28.ScriptDecodes'. -/
def scriptDecodesCard : Claim7 := { stood := { row := scriptDecodesRow, standIns := [], harness := (true, "09072ef5d861c5caa82768a8f1565cb8e90aaa74fb1c3a6f2fdca7fe99bf1901"), looks := false }, kinds := [], alts := [], laidByText := true, laidKinds := [.data, .data, .data], laidTests := true, laidLooks := .later }
def ScriptDecodesCardSaid : Prop := Claim7.holds Tryd.pinned (.plain (OpenSpec.ofChange scriptDecodesSpec)) scriptDecodesCard

/-- THE TIED CARD OF 'ricklaw28.ScriptText'. -/
def scriptTextCard : Claim7 := { stood := { row := scriptTextRow, standIns := [], harness := (true, "09072ef5d861c5caa82768a8f1565cb8e90aaa74fb1c3a6f2fdca7fe99bf1901"), looks := false }, kinds := [], alts := [], laidByText := true, laidKinds := [.data, .data, .data], laidTests := true, laidLooks := .later }
def ScriptTextCardSaid : Prop := Claim7.holds Tryd.pinned (.plain (OpenSpec.ofChange scriptTextSpec)) scriptTextCard

/-- THE TIED CARD OF 'ricklaw28.ScriptTail'. -/
def scriptTailCard : Claim7 := { stood := { row := scriptTailRow, standIns := [], harness := (true, "09072ef5d861c5caa82768a8f1565cb8e90aaa74fb1c3a6f2fdca7fe99bf1901"), looks := false }, kinds := [], alts := [], laidByText := true, laidKinds := [.data, .data, .data], laidTests := true, laidLooks := .later }
def ScriptTailCardSaid : Prop := Claim7.holds Tryd.pinned (.plain (OpenSpec.ofChange scriptTailSpec)) scriptTailCard

/-- THE TIED CARD OF 'ricklaw27.AuditTells'. -/
def auditTellsCard : Claim7 := { stood := { row := auditTellsRow, standIns := [], harness := (true, "09072ef5d861c5caa82768a8f1565cb8e90aaa74fb1c3a6f2fdca7fe99bf1901"), looks := false }, kinds := [], alts := [], laidByText := true, laidKinds := [.data, .pinned], laidTests := true, laidLooks := .later }
def AuditTellsCardSaid : Prop := Claim7.holds Tryd.pinned (.plain (OpenSpec.ofChange auditTellsSpec)) auditTellsCard

/-- THE SECOND FORM's CARD OF 'ricklaw28.ScriptDecodes'. -/
def scriptDecodesUptoCard : Claim7 := { stood := { row := scriptDecodesUptoRow, standIns := [], harness := (true, "09072ef5d861c5caa82768a8f1565cb8e90aaa74fb1c3a6f2fdca7fe99bf1901"), looks := false }, kinds := [], alts := [], laidByText := true, laidKinds := [.data, .data, .data], laidTests := true, laidLooks := .later }
def ScriptDecodesUptoCardSaid : Prop := Claim7.holds Tryd.pinned (.plain (OpenSpec.upto scriptDecodesSpec)) scriptDecodesUptoCard

/-- THE SECOND FORM's CARD OF 'ricklaw28.ScriptText'. -/
def scriptTextUptoCard : Claim7 := { stood := { row := scriptTextUptoRow, standIns := [], harness := (true, "09072ef5d861c5caa82768a8f1565cb8e90aaa74fb1c3a6f2fdca7fe99bf1901"), looks := false }, kinds := [], alts := [], laidByText := true, laidKinds := [.data, .data, .data], laidTests := true, laidLooks := .later }
def ScriptTextUptoCardSaid : Prop := Claim7.holds Tryd.pinned (.plain (OpenSpec.upto scriptTextSpec)) scriptTextUptoCard

/-- THE SECOND FORM's CARD OF 'ricklaw28.ScriptTail'. -/
def scriptTailUptoCard : Claim7 := { stood := { row := scriptTailUptoRow, standIns := [], harness := (true, "09072ef5d861c5caa82768a8f1565cb8e90aaa74fb1c3a6f2fdca7fe99bf1901"), looks := false }, kinds := [], alts := [], laidByText := true, laidKinds := [.data, .data, .data], laidTests := true, laidLooks := .later }
def ScriptTailUptoCardSaid : Prop := Claim7.holds Tryd.pinned (.plain (OpenSpec.upto scriptTailSpec)) scriptTailUptoCard

/-- THE SECOND FORM's CARD OF 'ricklaw27.AuditTells'. -/
def auditTellsUptoCard : Claim7 := { stood := { row := auditTellsUptoRow, standIns := [], harness := (true, "09072ef5d861c5caa82768a8f1565cb8e90aaa74fb1c3a6f2fdca7fe99bf1901"), looks := false }, kinds := [], alts := [], laidByText := true, laidKinds := [.data, .pinned], laidTests := true, laidLooks := .later }
def AuditTellsUptoCardSaid : Prop := Claim7.holds Tryd.pinned (.plain (OpenSpec.upto auditTellsSpec)) auditTellsUptoCard
end Rows
end Go.Proofs.YtnkboccngialiaaDoor
