/-
  NARROWER THAN 'FOR EVERY INPUT', by the rows' own cells (each row's printed sentence says how): MoveStands: laid · MoveSettles: laid · MoveRefuses: laid · MoveApart: laid · MoveTells: laid · MoveRestacks: laid.
  DERIVED. THE GIVEN ROWS OF THIS SEAT. 6 by the template 'for every input the law returns true; each argument reads behind the call as it read before'; 0 by the template 'total and deterministic' (their statements: YtohblmepajhpaaaGreatDoorTotals.lean).
  GIVEN WITH THE SEED: the statements are not yours to turn. If you find one false, say at which input.
  Laid BY PROGRAM, IN A SANDBOX (cutbox-rows.mjs): the forced cells as the released guide's own fill.sh prints them over the translation e7aef6faa9731d2f… (all of the seat's roots in one cut). By AI agents, Wed Nov 11 2026. No macro, syntax, notation, axiom, sorry.
-/
import Derived.Test.YtohblmepajhpaaaGreatDoorChecked
import GoSem.PinnedTables
import GoSem.Claim
import GoSem.ClaimJoined
import GoSem.ClaimMapViews
import Derived.JoinedTies
import Derived.KernelRfl
namespace Go.Proofs.YtohblmepajhpaaaGreatDoor
/- THE CELL 'sum', in the pinned program and in every row, IS THE sha256 OF THE DUMP (.gsa) THAT YtohblmepajhpaaaGreatDoorProg.lean LOADS. Nothing in Lean hashes anything: it is a label: what it is worth is what the hold of that sum in a sandbox is worth. -/
noncomputable def Tryz.pinned : Pinned := { name := "ytohblmepajhpaaagreatdoor", sum := "e7aef6faa9731d2f78efaca7d3b8fedd13c46f0f12760676eee4340dd4c18abd", checked := Tryz.checked }
namespace Rows
def none {H : Type} : Left H := { results := [], args := [] }

/- WHAT THE LISTED PACKAGE-LEVEL VARIABLES READ AS WHEN THE CALL BEGINS. Each datum BY PROGRAM (the guide's laid-datum.mjs) off the statement by which the dump's own 'gosem.cut.vars' lays the variable. In a bare row this is a premise. The card (YtohblmepajhpaaaGreatDoorCards.lean) ties it to the program's text. -/
def laid_unicode_utf8_acceptRanges {H : Type} : DataW H := .agg [.agg [.lit (.int .u8 128), .lit (.int .u8 191)], .agg [.lit (.int .u8 160), .lit (.int .u8 191)], .agg [.lit (.int .u8 128), .lit (.int .u8 159)], .agg [.lit (.int .u8 144), .lit (.int .u8 191)], .agg [.lit (.int .u8 128), .lit (.int .u8 143)], .agg [.lit (.int .u8 0), .lit (.int .u8 0)], .agg [.lit (.int .u8 0), .lit (.int .u8 0)], .agg [.lit (.int .u8 0), .lit (.int .u8 0)], .agg [.lit (.int .u8 0), .lit (.int .u8 0)], .agg [.lit (.int .u8 0), .lit (.int .u8 0)], .agg [.lit (.int .u8 0), .lit (.int .u8 0)], .agg [.lit (.int .u8 0), .lit (.int .u8 0)], .agg [.lit (.int .u8 0), .lit (.int .u8 0)], .agg [.lit (.int .u8 0), .lit (.int .u8 0)], .agg [.lit (.int .u8 0), .lit (.int .u8 0)], .agg [.lit (.int .u8 0), .lit (.int .u8 0)]]
/-- One of Go's own tables, pinned by name: the form's constant. -/
def laid_unicode_utf8_first : DataW Unit := Go.Pinned.utf8First

/-- 'ricklaw24.MoveStands': WHATEVER THE INPUT: true; the input reads as it did. -/
def moveStandsSpec : ChangeSpec := { name := "moveStands", fn := fun _ => fun
  | [d1, d2, d3, d4] => { results := [.lit (.bool true)], args := [d1, d2, d3, d4] }
  | _ => none }
def moveStandsRow : OpenClaim := { program := "ytohblmepajhpaaagreatdoor", sum := "e7aef6faa9731d2f78efaca7d3b8fedd13c46f0f12760676eee4340dd4c18abd", func := "rick/ricklaw24.MoveStands", spec := "moveStands", inPlace := ["internal/bytealg.CountString", "internal/bytealg.IndexByteString", "internal/bytealg.IndexString", "internal/abi.NoEscape", "internal/bytealg.MakeNoZero"], unfollowed := true, recurses := true, named := ["unicode/utf8.first", "unicode/utf8.acceptRanges", "internal/bytealg.MaxLen"], plainKeys := false, apart := false, laid := [("unicode/utf8.acceptRanges", laid_unicode_utf8_acceptRanges), ("unicode/utf8.first", laid_unicode_utf8_first)] }
def MoveStandsSaid : Prop := moveStandsRow.holds Tryz.pinned (OpenSpec.ofChange moveStandsSpec)

/-- ITS FALSE NEIGHBOUR: 'it returns false'. Refute it at one input. -/
def moveStandsWrong : ChangeSpec := { name := "moveStands", fn := fun _ => fun
  | [d1, d2, d3, d4] => { results := [.lit (.bool false)], args := [d1, d2, d3, d4] }
  | _ => none }
def MoveStandsWrongFalsely : Prop := moveStandsRow.holds Tryz.pinned (OpenSpec.ofChange moveStandsWrong)

/-- 'ricklaw24.MoveSettles': WHATEVER THE INPUT: true; the input reads as it did. -/
def moveSettlesSpec : ChangeSpec := { name := "moveSettles", fn := fun _ => fun
  | [d1, d2, d3, d4, d5] => { results := [.lit (.bool true)], args := [d1, d2, d3, d4, d5] }
  | _ => none }
def moveSettlesRow : OpenClaim := { program := "ytohblmepajhpaaagreatdoor", sum := "e7aef6faa9731d2f78efaca7d3b8fedd13c46f0f12760676eee4340dd4c18abd", func := "rick/ricklaw24.MoveSettles", spec := "moveSettles", inPlace := ["internal/bytealg.CountString", "internal/bytealg.IndexByteString", "internal/bytealg.IndexString", "internal/abi.NoEscape", "internal/bytealg.MakeNoZero"], unfollowed := true, recurses := true, named := ["unicode/utf8.first", "unicode/utf8.acceptRanges", "internal/bytealg.MaxLen"], plainKeys := false, apart := false, laid := [("unicode/utf8.acceptRanges", laid_unicode_utf8_acceptRanges), ("unicode/utf8.first", laid_unicode_utf8_first)] }
def MoveSettlesSaid : Prop := moveSettlesRow.holds Tryz.pinned (OpenSpec.ofChange moveSettlesSpec)

/-- ITS FALSE NEIGHBOUR: 'it returns false'. Refute it at one input. -/
def moveSettlesWrong : ChangeSpec := { name := "moveSettles", fn := fun _ => fun
  | [d1, d2, d3, d4, d5] => { results := [.lit (.bool false)], args := [d1, d2, d3, d4, d5] }
  | _ => none }
def MoveSettlesWrongFalsely : Prop := moveSettlesRow.holds Tryz.pinned (OpenSpec.ofChange moveSettlesWrong)

/-- 'ricklaw24.MoveRefuses': WHATEVER THE INPUT: true; the input reads as it did. -/
def moveRefusesSpec : ChangeSpec := { name := "moveRefuses", fn := fun _ => fun
  | [d1, d2, d3, d4] => { results := [.lit (.bool true)], args := [d1, d2, d3, d4] }
  | _ => none }
def moveRefusesRow : OpenClaim := { program := "ytohblmepajhpaaagreatdoor", sum := "e7aef6faa9731d2f78efaca7d3b8fedd13c46f0f12760676eee4340dd4c18abd", func := "rick/ricklaw24.MoveRefuses", spec := "moveRefuses", inPlace := ["internal/bytealg.CountString", "internal/bytealg.IndexByteString", "internal/bytealg.IndexString", "internal/abi.NoEscape", "internal/bytealg.MakeNoZero"], unfollowed := true, recurses := true, named := ["unicode/utf8.first", "unicode/utf8.acceptRanges", "internal/bytealg.MaxLen"], plainKeys := false, apart := false, laid := [("unicode/utf8.acceptRanges", laid_unicode_utf8_acceptRanges), ("unicode/utf8.first", laid_unicode_utf8_first)] }
def MoveRefusesSaid : Prop := moveRefusesRow.holds Tryz.pinned (OpenSpec.ofChange moveRefusesSpec)

/-- ITS FALSE NEIGHBOUR: 'it returns false'. Refute it at one input. -/
def moveRefusesWrong : ChangeSpec := { name := "moveRefuses", fn := fun _ => fun
  | [d1, d2, d3, d4] => { results := [.lit (.bool false)], args := [d1, d2, d3, d4] }
  | _ => none }
def MoveRefusesWrongFalsely : Prop := moveRefusesRow.holds Tryz.pinned (OpenSpec.ofChange moveRefusesWrong)

/-- 'ricklaw24.MoveApart': WHATEVER THE INPUT: true; the input reads as it did. -/
def moveApartSpec : ChangeSpec := { name := "moveApart", fn := fun _ => fun
  | [d1, d2, d3] => { results := [.lit (.bool true)], args := [d1, d2, d3] }
  | _ => none }
def moveApartRow : OpenClaim := { program := "ytohblmepajhpaaagreatdoor", sum := "e7aef6faa9731d2f78efaca7d3b8fedd13c46f0f12760676eee4340dd4c18abd", func := "rick/ricklaw24.MoveApart", spec := "moveApart", inPlace := ["internal/bytealg.CountString", "internal/bytealg.IndexByteString", "internal/bytealg.IndexString", "internal/abi.NoEscape", "internal/bytealg.MakeNoZero"], unfollowed := true, recurses := true, named := ["unicode/utf8.first", "unicode/utf8.acceptRanges", "internal/bytealg.MaxLen"], plainKeys := false, apart := false, laid := [("unicode/utf8.acceptRanges", laid_unicode_utf8_acceptRanges), ("unicode/utf8.first", laid_unicode_utf8_first)] }
def MoveApartSaid : Prop := moveApartRow.holds Tryz.pinned (OpenSpec.ofChange moveApartSpec)

/-- ITS FALSE NEIGHBOUR: 'it returns false'. Refute it at one input. -/
def moveApartWrong : ChangeSpec := { name := "moveApart", fn := fun _ => fun
  | [d1, d2, d3] => { results := [.lit (.bool false)], args := [d1, d2, d3] }
  | _ => none }
def MoveApartWrongFalsely : Prop := moveApartRow.holds Tryz.pinned (OpenSpec.ofChange moveApartWrong)

/-- 'ricklaw24.MoveTells': WHATEVER THE INPUT: true; the input reads as it did. -/
def moveTellsSpec : ChangeSpec := { name := "moveTells", fn := fun _ => fun
  | [d1, d2, d3, d4, d5, d6] => { results := [.lit (.bool true)], args := [d1, d2, d3, d4, d5, d6] }
  | _ => none }
def moveTellsRow : OpenClaim := { program := "ytohblmepajhpaaagreatdoor", sum := "e7aef6faa9731d2f78efaca7d3b8fedd13c46f0f12760676eee4340dd4c18abd", func := "rick/ricklaw24.MoveTells", spec := "moveTells", inPlace := ["internal/bytealg.CountString", "internal/bytealg.IndexByteString", "internal/bytealg.IndexString", "internal/abi.NoEscape", "internal/bytealg.MakeNoZero"], unfollowed := true, recurses := true, named := ["unicode/utf8.first", "unicode/utf8.acceptRanges", "internal/bytealg.MaxLen"], plainKeys := false, apart := false, laid := [("unicode/utf8.acceptRanges", laid_unicode_utf8_acceptRanges), ("unicode/utf8.first", laid_unicode_utf8_first)] }
def MoveTellsSaid : Prop := moveTellsRow.holds Tryz.pinned (OpenSpec.ofChange moveTellsSpec)

/-- ITS FALSE NEIGHBOUR: 'it returns false'. Refute it at one input. -/
def moveTellsWrong : ChangeSpec := { name := "moveTells", fn := fun _ => fun
  | [d1, d2, d3, d4, d5, d6] => { results := [.lit (.bool false)], args := [d1, d2, d3, d4, d5, d6] }
  | _ => none }
def MoveTellsWrongFalsely : Prop := moveTellsRow.holds Tryz.pinned (OpenSpec.ofChange moveTellsWrong)

/-- 'ricklaw24.MoveRestacks': WHATEVER THE INPUT: true; the input reads as it did. -/
def moveRestacksSpec : ChangeSpec := { name := "moveRestacks", fn := fun _ => fun
  | [d1, d2] => { results := [.lit (.bool true)], args := [d1, d2] }
  | _ => none }
def moveRestacksRow : OpenClaim := { program := "ytohblmepajhpaaagreatdoor", sum := "e7aef6faa9731d2f78efaca7d3b8fedd13c46f0f12760676eee4340dd4c18abd", func := "rick/ricklaw24.MoveRestacks", spec := "moveRestacks", inPlace := ["internal/bytealg.CountString", "internal/bytealg.IndexByteString", "internal/bytealg.IndexString", "internal/abi.NoEscape", "internal/bytealg.MakeNoZero"], unfollowed := true, recurses := true, named := ["unicode/utf8.first", "unicode/utf8.acceptRanges", "internal/bytealg.MaxLen"], plainKeys := false, apart := false, laid := [("unicode/utf8.acceptRanges", laid_unicode_utf8_acceptRanges), ("unicode/utf8.first", laid_unicode_utf8_first)] }
def MoveRestacksSaid : Prop := moveRestacksRow.holds Tryz.pinned (OpenSpec.ofChange moveRestacksSpec)

/-- ITS FALSE NEIGHBOUR: 'it returns false'. Refute it at one input. -/
def moveRestacksWrong : ChangeSpec := { name := "moveRestacks", fn := fun _ => fun
  | [d1, d2] => { results := [.lit (.bool false)], args := [d1, d2] }
  | _ => none }
def MoveRestacksWrongFalsely : Prop := moveRestacksRow.holds Tryz.pinned (OpenSpec.ofChange moveRestacksWrong)

/- THE SECOND FORM. 'bulk': how many values and letters a reading holds, each counted each time it is reached (what is shared counts as often as it is met; a slice's spare places count too). A statement '..UptoSaid' is the law's where the arguments, and the package variables that the reading takes, are together of bulk at most 1048576: NARROWER than '..Said'. Prove '..Said' where nothing that the law and all that it calls make is longer than what came in: it says more and counts as full. Else prove '..UptoSaid'. A law counts once. -/
mutual
def uptoBulk {H : Type} : DataW H → Nat
  | .lit (.string bytes) => bytes.length + 1
  | .lit _ => 1
  | .nil => 1
  | .ptr d => uptoBulk d + 1
  | .slice elems spare => uptoBulkAll elems + uptoBulkAll spare + 1
  | .agg parts => uptoBulkAll parts + 1
  | .iface _ d => uptoBulk d + 1
  | .map entries => uptoBulkEntries entries + 1
  | .held _ => 1
def uptoBulkAll {H : Type} : List (DataW H) → Nat
  | [] => 0
  | d :: r => uptoBulk d + uptoBulkAll r
def uptoBulkEntries {H : Type} : List (Lit × DataW H) → Nat
  | [] => 0
  | x :: r => uptoBulkEntry x + uptoBulkEntries r
def uptoBulkEntry {H : Type} : Lit × DataW H → Nat
  | (.string bytes, d) => bytes.length + uptoBulk d + 1
  | (_, d) => uptoBulk d + 1
 end
def uptoSmall : (H : Type) → List (DataW H) → Bool := fun _ ds => decide (uptoBulkAll ds ≤ 1048576)
def OpenSpec.upto (s : _root_.Go.ChangeSpec) : _root_.Go.OpenSpec := { _root_.Go.OpenSpec.ofChange s with cond := some uptoSmall }

/-- 'ricklaw24.MoveStands', WHERE WHAT IT READS IS OF BULK AT MOST 1048576: true; the input reads as it did. -/
def moveStandsUptoRow : OpenClaim := { program := "ytohblmepajhpaaagreatdoor", sum := "e7aef6faa9731d2f78efaca7d3b8fedd13c46f0f12760676eee4340dd4c18abd", func := "rick/ricklaw24.MoveStands", spec := "moveStands", inPlace := ["internal/bytealg.CountString", "internal/bytealg.IndexByteString", "internal/bytealg.IndexString", "internal/abi.NoEscape", "internal/bytealg.MakeNoZero"], unfollowed := true, recurses := true, named := ["unicode/utf8.first", "unicode/utf8.acceptRanges", "internal/bytealg.MaxLen"], plainKeys := false, apart := false, laid := [("unicode/utf8.acceptRanges", laid_unicode_utf8_acceptRanges), ("unicode/utf8.first", laid_unicode_utf8_first)], narrowed := true }
def MoveStandsUptoSaid : Prop := moveStandsUptoRow.holds Tryz.pinned (OpenSpec.upto moveStandsSpec)

/-- 'ricklaw24.MoveSettles', WHERE WHAT IT READS IS OF BULK AT MOST 1048576: true; the input reads as it did. -/
def moveSettlesUptoRow : OpenClaim := { program := "ytohblmepajhpaaagreatdoor", sum := "e7aef6faa9731d2f78efaca7d3b8fedd13c46f0f12760676eee4340dd4c18abd", func := "rick/ricklaw24.MoveSettles", spec := "moveSettles", inPlace := ["internal/bytealg.CountString", "internal/bytealg.IndexByteString", "internal/bytealg.IndexString", "internal/abi.NoEscape", "internal/bytealg.MakeNoZero"], unfollowed := true, recurses := true, named := ["unicode/utf8.first", "unicode/utf8.acceptRanges", "internal/bytealg.MaxLen"], plainKeys := false, apart := false, laid := [("unicode/utf8.acceptRanges", laid_unicode_utf8_acceptRanges), ("unicode/utf8.first", laid_unicode_utf8_first)], narrowed := true }
def MoveSettlesUptoSaid : Prop := moveSettlesUptoRow.holds Tryz.pinned (OpenSpec.upto moveSettlesSpec)

/-- 'ricklaw24.MoveRefuses', WHERE WHAT IT READS IS OF BULK AT MOST 1048576: true; the input reads as it did. -/
def moveRefusesUptoRow : OpenClaim := { program := "ytohblmepajhpaaagreatdoor", sum := "e7aef6faa9731d2f78efaca7d3b8fedd13c46f0f12760676eee4340dd4c18abd", func := "rick/ricklaw24.MoveRefuses", spec := "moveRefuses", inPlace := ["internal/bytealg.CountString", "internal/bytealg.IndexByteString", "internal/bytealg.IndexString", "internal/abi.NoEscape", "internal/bytealg.MakeNoZero"], unfollowed := true, recurses := true, named := ["unicode/utf8.first", "unicode/utf8.acceptRanges", "internal/bytealg.MaxLen"], plainKeys := false, apart := false, laid := [("unicode/utf8.acceptRanges", laid_unicode_utf8_acceptRanges), ("unicode/utf8.first", laid_unicode_utf8_first)], narrowed := true }
def MoveRefusesUptoSaid : Prop := moveRefusesUptoRow.holds Tryz.pinned (OpenSpec.upto moveRefusesSpec)

/-- 'ricklaw24.MoveApart', WHERE WHAT IT READS IS OF BULK AT MOST 1048576: true; the input reads as it did. -/
def moveApartUptoRow : OpenClaim := { program := "ytohblmepajhpaaagreatdoor", sum := "e7aef6faa9731d2f78efaca7d3b8fedd13c46f0f12760676eee4340dd4c18abd", func := "rick/ricklaw24.MoveApart", spec := "moveApart", inPlace := ["internal/bytealg.CountString", "internal/bytealg.IndexByteString", "internal/bytealg.IndexString", "internal/abi.NoEscape", "internal/bytealg.MakeNoZero"], unfollowed := true, recurses := true, named := ["unicode/utf8.first", "unicode/utf8.acceptRanges", "internal/bytealg.MaxLen"], plainKeys := false, apart := false, laid := [("unicode/utf8.acceptRanges", laid_unicode_utf8_acceptRanges), ("unicode/utf8.first", laid_unicode_utf8_first)], narrowed := true }
def MoveApartUptoSaid : Prop := moveApartUptoRow.holds Tryz.pinned (OpenSpec.upto moveApartSpec)

/-- 'ricklaw24.MoveTells', WHERE WHAT IT READS IS OF BULK AT MOST 1048576: true; the input reads as it did. -/
def moveTellsUptoRow : OpenClaim := { program := "ytohblmepajhpaaagreatdoor", sum := "e7aef6faa9731d2f78efaca7d3b8fedd13c46f0f12760676eee4340dd4c18abd", func := "rick/ricklaw24.MoveTells", spec := "moveTells", inPlace := ["internal/bytealg.CountString", "internal/bytealg.IndexByteString", "internal/bytealg.IndexString", "internal/abi.NoEscape", "internal/bytealg.MakeNoZero"], unfollowed := true, recurses := true, named := ["unicode/utf8.first", "unicode/utf8.acceptRanges", "internal/bytealg.MaxLen"], plainKeys := false, apart := false, laid := [("unicode/utf8.acceptRanges", laid_unicode_utf8_acceptRanges), ("unicode/utf8.first", laid_unicode_utf8_first)], narrowed := true }
def MoveTellsUptoSaid : Prop := moveTellsUptoRow.holds Tryz.pinned (OpenSpec.upto moveTellsSpec)

/-- 'ricklaw24.MoveRestacks', WHERE WHAT IT READS IS OF BULK AT MOST 1048576: true; the input reads as it did. -/
def moveRestacksUptoRow : OpenClaim := { program := "ytohblmepajhpaaagreatdoor", sum := "e7aef6faa9731d2f78efaca7d3b8fedd13c46f0f12760676eee4340dd4c18abd", func := "rick/ricklaw24.MoveRestacks", spec := "moveRestacks", inPlace := ["internal/bytealg.CountString", "internal/bytealg.IndexByteString", "internal/bytealg.IndexString", "internal/abi.NoEscape", "internal/bytealg.MakeNoZero"], unfollowed := true, recurses := true, named := ["unicode/utf8.first", "unicode/utf8.acceptRanges", "internal/bytealg.MaxLen"], plainKeys := false, apart := false, laid := [("unicode/utf8.acceptRanges", laid_unicode_utf8_acceptRanges), ("unicode/utf8.first", laid_unicode_utf8_first)], narrowed := true }
def MoveRestacksUptoSaid : Prop := moveRestacksUptoRow.holds Tryz.pinned (OpenSpec.upto moveRestacksSpec)

end Rows
end Go.Proofs.YtohblmepajhpaaaGreatDoor
