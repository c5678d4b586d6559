/-
  NARROWER THAN 'FOR EVERY INPUT', by the rows' own cells (each row's printed sentence says how): TreemergeTells: laid · TreemergeOne: laid · TreemergePaths: laid · TreemergeMoves: laid · TreemergeDeletes: laid · TreemergeAdds: laid · TreemergeTurned: laid.
  DERIVED. THE GIVEN ROWS OF THIS SEAT. 7 by the template 'for every input the law returns true; each argument reads behind the call as it read before'; 0 by the template 'total and deterministic' (their statements: YtcemkikgaeghjaaGreatDoorTotals.lean).
  GIVEN WITH THE SEED: the statements are not yours to turn. If you find one false, say at which input.
  Laid BY PROGRAM, IN A SANDBOX (cutbox-rows.mjs): the forced cells as the released guide's own fill.sh prints them over the translation dd57ee67daafd533… (all of the seat's roots in one cut). By AI agents, Wed Nov 11 2026. No macro, syntax, notation, axiom, sorry.
-/
import Derived.Test.YtcemkikgaeghjaaGreatDoorChecked
import GoSem.PinnedTables
import GoSem.Claim
import GoSem.ClaimJoined
import GoSem.ClaimMapViews
import Derived.JoinedTies
import Derived.KernelRfl
namespace Go.Proofs.YtcemkikgaeghjaaGreatDoor
/- THE CELL 'sum', in the pinned program and in every row, IS THE sha256 OF THE DUMP (.gsa) THAT YtcemkikgaeghjaaGreatDoorProg.lean LOADS. Nothing in Lean hashes anything: it is a label: what it is worth is what the hold of that sum in a sandbox is worth. -/
noncomputable def Tryz.pinned : Pinned := { name := "ytcemkikgaeghjaagreatdoor", sum := "dd57ee67daafd533eb7a1a919b275e2f91773097a102c775e8095f9633e1045d", checked := Tryz.checked }
namespace Rows
def none {H : Type} : Left H := { results := [], args := [] }

/- WHAT THE LISTED PACKAGE-LEVEL VARIABLES READ AS WHEN THE CALL BEGINS. Each datum BY PROGRAM (the guide's laid-datum.mjs) off the statement by which the dump's own 'gosem.cut.vars' lays the variable. In a bare row this is a premise. The card (YtcemkikgaeghjaaGreatDoorCards.lean) ties it to the program's text. -/
def laid_unicode_utf8_acceptRanges {H : Type} : DataW H := .agg [.agg [.lit (.int .u8 128), .lit (.int .u8 191)], .agg [.lit (.int .u8 160), .lit (.int .u8 191)], .agg [.lit (.int .u8 128), .lit (.int .u8 159)], .agg [.lit (.int .u8 144), .lit (.int .u8 191)], .agg [.lit (.int .u8 128), .lit (.int .u8 143)], .agg [.lit (.int .u8 0), .lit (.int .u8 0)], .agg [.lit (.int .u8 0), .lit (.int .u8 0)], .agg [.lit (.int .u8 0), .lit (.int .u8 0)], .agg [.lit (.int .u8 0), .lit (.int .u8 0)], .agg [.lit (.int .u8 0), .lit (.int .u8 0)], .agg [.lit (.int .u8 0), .lit (.int .u8 0)], .agg [.lit (.int .u8 0), .lit (.int .u8 0)], .agg [.lit (.int .u8 0), .lit (.int .u8 0)], .agg [.lit (.int .u8 0), .lit (.int .u8 0)], .agg [.lit (.int .u8 0), .lit (.int .u8 0)], .agg [.lit (.int .u8 0), .lit (.int .u8 0)]]
/-- One of Go's own tables, pinned by name: the form's constant. -/
def laid_unicode_utf8_first : DataW Unit := Go.Pinned.utf8First

/-- 'ricklaw14.TreemergeTells': WHATEVER THE INPUT: true; the input reads as it did. -/
def treemergeTellsSpec : ChangeSpec := { name := "treemergeTells", fn := fun _ => fun
  | [d1, d2, d3, d4] => { results := [.lit (.bool true)], args := [d1, d2, d3, d4] }
  | _ => none }
def treemergeTellsRow : OpenClaim := { program := "ytcemkikgaeghjaagreatdoor", sum := "dd57ee67daafd533eb7a1a919b275e2f91773097a102c775e8095f9633e1045d", func := "rick/ricklaw14.TreemergeTells", spec := "treemergeTells", inPlace := ["internal/bytealg.CountString", "internal/bytealg.IndexByteString", "internal/bytealg.IndexString", "internal/abi.NoEscape", "internal/bytealg.MakeNoZero"], unfollowed := true, recurses := true, named := ["unicode/utf8.first", "unicode/utf8.acceptRanges", "internal/bytealg.MaxLen"], plainKeys := false, apart := false, laid := [("unicode/utf8.acceptRanges", laid_unicode_utf8_acceptRanges), ("unicode/utf8.first", laid_unicode_utf8_first)] }
def TreemergeTellsSaid : Prop := treemergeTellsRow.holds Tryz.pinned (OpenSpec.ofChange treemergeTellsSpec)

/-- ITS FALSE NEIGHBOUR: 'it returns false'. Refute it at one input. -/
def treemergeTellsWrong : ChangeSpec := { name := "treemergeTells", fn := fun _ => fun
  | [d1, d2, d3, d4] => { results := [.lit (.bool false)], args := [d1, d2, d3, d4] }
  | _ => none }
def TreemergeTellsWrongFalsely : Prop := treemergeTellsRow.holds Tryz.pinned (OpenSpec.ofChange treemergeTellsWrong)

/-- 'ricklaw14.TreemergeOne': WHATEVER THE INPUT: true; the input reads as it did. -/
def treemergeOneSpec : ChangeSpec := { name := "treemergeOne", fn := fun _ => fun
  | [d1, d2] => { results := [.lit (.bool true)], args := [d1, d2] }
  | _ => none }
def treemergeOneRow : OpenClaim := { program := "ytcemkikgaeghjaagreatdoor", sum := "dd57ee67daafd533eb7a1a919b275e2f91773097a102c775e8095f9633e1045d", func := "rick/ricklaw14.TreemergeOne", spec := "treemergeOne", inPlace := ["internal/bytealg.CountString", "internal/bytealg.IndexByteString", "internal/bytealg.IndexString", "internal/abi.NoEscape", "internal/bytealg.MakeNoZero"], unfollowed := true, recurses := true, named := ["unicode/utf8.first", "unicode/utf8.acceptRanges", "internal/bytealg.MaxLen"], plainKeys := false, apart := false, laid := [("unicode/utf8.acceptRanges", laid_unicode_utf8_acceptRanges), ("unicode/utf8.first", laid_unicode_utf8_first)] }
def TreemergeOneSaid : Prop := treemergeOneRow.holds Tryz.pinned (OpenSpec.ofChange treemergeOneSpec)

/-- ITS FALSE NEIGHBOUR: 'it returns false'. Refute it at one input. -/
def treemergeOneWrong : ChangeSpec := { name := "treemergeOne", fn := fun _ => fun
  | [d1, d2] => { results := [.lit (.bool false)], args := [d1, d2] }
  | _ => none }
def TreemergeOneWrongFalsely : Prop := treemergeOneRow.holds Tryz.pinned (OpenSpec.ofChange treemergeOneWrong)

/-- 'ricklaw14.TreemergePaths': WHATEVER THE INPUT: true; the input reads as it did. -/
def treemergePathsSpec : ChangeSpec := { name := "treemergePaths", fn := fun _ => fun
  | [d1, d2, d3, d4] => { results := [.lit (.bool true)], args := [d1, d2, d3, d4] }
  | _ => none }
def treemergePathsRow : OpenClaim := { program := "ytcemkikgaeghjaagreatdoor", sum := "dd57ee67daafd533eb7a1a919b275e2f91773097a102c775e8095f9633e1045d", func := "rick/ricklaw14.TreemergePaths", spec := "treemergePaths", inPlace := ["internal/bytealg.CountString", "internal/bytealg.IndexByteString", "internal/bytealg.IndexString", "internal/abi.NoEscape", "internal/bytealg.MakeNoZero"], unfollowed := true, recurses := true, named := ["unicode/utf8.first", "unicode/utf8.acceptRanges", "internal/bytealg.MaxLen"], plainKeys := false, apart := false, laid := [("unicode/utf8.acceptRanges", laid_unicode_utf8_acceptRanges), ("unicode/utf8.first", laid_unicode_utf8_first)] }
def TreemergePathsSaid : Prop := treemergePathsRow.holds Tryz.pinned (OpenSpec.ofChange treemergePathsSpec)

/-- ITS FALSE NEIGHBOUR: 'it returns false'. Refute it at one input. -/
def treemergePathsWrong : ChangeSpec := { name := "treemergePaths", fn := fun _ => fun
  | [d1, d2, d3, d4] => { results := [.lit (.bool false)], args := [d1, d2, d3, d4] }
  | _ => none }
def TreemergePathsWrongFalsely : Prop := treemergePathsRow.holds Tryz.pinned (OpenSpec.ofChange treemergePathsWrong)

/-- 'ricklaw14.TreemergeMoves': WHATEVER THE INPUT: true; the input reads as it did. -/
def treemergeMovesSpec : ChangeSpec := { name := "treemergeMoves", fn := fun _ => fun
  | [d1, d2, d3, d4, d5] => { results := [.lit (.bool true)], args := [d1, d2, d3, d4, d5] }
  | _ => none }
def treemergeMovesRow : OpenClaim := { program := "ytcemkikgaeghjaagreatdoor", sum := "dd57ee67daafd533eb7a1a919b275e2f91773097a102c775e8095f9633e1045d", func := "rick/ricklaw14.TreemergeMoves", spec := "treemergeMoves", inPlace := ["internal/bytealg.CountString", "internal/bytealg.IndexByteString", "internal/bytealg.IndexString", "internal/abi.NoEscape", "internal/bytealg.MakeNoZero"], unfollowed := true, recurses := true, named := ["unicode/utf8.first", "unicode/utf8.acceptRanges", "internal/bytealg.MaxLen"], plainKeys := false, apart := false, laid := [("unicode/utf8.acceptRanges", laid_unicode_utf8_acceptRanges), ("unicode/utf8.first", laid_unicode_utf8_first)] }
def TreemergeMovesSaid : Prop := treemergeMovesRow.holds Tryz.pinned (OpenSpec.ofChange treemergeMovesSpec)

/-- ITS FALSE NEIGHBOUR: 'it returns false'. Refute it at one input. -/
def treemergeMovesWrong : ChangeSpec := { name := "treemergeMoves", fn := fun _ => fun
  | [d1, d2, d3, d4, d5] => { results := [.lit (.bool false)], args := [d1, d2, d3, d4, d5] }
  | _ => none }
def TreemergeMovesWrongFalsely : Prop := treemergeMovesRow.holds Tryz.pinned (OpenSpec.ofChange treemergeMovesWrong)

/-- 'ricklaw14.TreemergeDeletes': WHATEVER THE INPUT: true; the input reads as it did. -/
def treemergeDeletesSpec : ChangeSpec := { name := "treemergeDeletes", fn := fun _ => fun
  | [d1, d2] => { results := [.lit (.bool true)], args := [d1, d2] }
  | _ => none }
def treemergeDeletesRow : OpenClaim := { program := "ytcemkikgaeghjaagreatdoor", sum := "dd57ee67daafd533eb7a1a919b275e2f91773097a102c775e8095f9633e1045d", func := "rick/ricklaw14.TreemergeDeletes", spec := "treemergeDeletes", inPlace := ["internal/bytealg.CountString", "internal/bytealg.IndexByteString", "internal/bytealg.IndexString", "internal/abi.NoEscape", "internal/bytealg.MakeNoZero"], unfollowed := true, recurses := true, named := ["unicode/utf8.first", "unicode/utf8.acceptRanges", "internal/bytealg.MaxLen"], plainKeys := false, apart := false, laid := [("unicode/utf8.acceptRanges", laid_unicode_utf8_acceptRanges), ("unicode/utf8.first", laid_unicode_utf8_first)] }
def TreemergeDeletesSaid : Prop := treemergeDeletesRow.holds Tryz.pinned (OpenSpec.ofChange treemergeDeletesSpec)

/-- ITS FALSE NEIGHBOUR: 'it returns false'. Refute it at one input. -/
def treemergeDeletesWrong : ChangeSpec := { name := "treemergeDeletes", fn := fun _ => fun
  | [d1, d2] => { results := [.lit (.bool false)], args := [d1, d2] }
  | _ => none }
def TreemergeDeletesWrongFalsely : Prop := treemergeDeletesRow.holds Tryz.pinned (OpenSpec.ofChange treemergeDeletesWrong)

/-- 'ricklaw14.TreemergeAdds': WHATEVER THE INPUT: true; the input reads as it did. -/
def treemergeAddsSpec : ChangeSpec := { name := "treemergeAdds", fn := fun _ => fun
  | [d1, d2, d3, d4] => { results := [.lit (.bool true)], args := [d1, d2, d3, d4] }
  | _ => none }
def treemergeAddsRow : OpenClaim := { program := "ytcemkikgaeghjaagreatdoor", sum := "dd57ee67daafd533eb7a1a919b275e2f91773097a102c775e8095f9633e1045d", func := "rick/ricklaw14.TreemergeAdds", spec := "treemergeAdds", inPlace := ["internal/bytealg.CountString", "internal/bytealg.IndexByteString", "internal/bytealg.IndexString", "internal/abi.NoEscape", "internal/bytealg.MakeNoZero"], unfollowed := true, recurses := true, named := ["unicode/utf8.first", "unicode/utf8.acceptRanges", "internal/bytealg.MaxLen"], plainKeys := false, apart := false, laid := [("unicode/utf8.acceptRanges", laid_unicode_utf8_acceptRanges), ("unicode/utf8.first", laid_unicode_utf8_first)] }
def TreemergeAddsSaid : Prop := treemergeAddsRow.holds Tryz.pinned (OpenSpec.ofChange treemergeAddsSpec)

/-- ITS FALSE NEIGHBOUR: 'it returns false'. Refute it at one input. -/
def treemergeAddsWrong : ChangeSpec := { name := "treemergeAdds", fn := fun _ => fun
  | [d1, d2, d3, d4] => { results := [.lit (.bool false)], args := [d1, d2, d3, d4] }
  | _ => none }
def TreemergeAddsWrongFalsely : Prop := treemergeAddsRow.holds Tryz.pinned (OpenSpec.ofChange treemergeAddsWrong)

/-- 'ricklaw14.TreemergeTurned': WHATEVER THE INPUT: true; the input reads as it did. -/
def treemergeTurnedSpec : ChangeSpec := { name := "treemergeTurned", fn := fun _ => fun
  | [d1, d2, d3] => { results := [.lit (.bool true)], args := [d1, d2, d3] }
  | _ => none }
def treemergeTurnedRow : OpenClaim := { program := "ytcemkikgaeghjaagreatdoor", sum := "dd57ee67daafd533eb7a1a919b275e2f91773097a102c775e8095f9633e1045d", func := "rick/ricklaw14.TreemergeTurned", spec := "treemergeTurned", inPlace := ["internal/bytealg.CountString", "internal/bytealg.IndexByteString", "internal/bytealg.IndexString", "internal/abi.NoEscape", "internal/bytealg.MakeNoZero"], unfollowed := true, recurses := true, named := ["unicode/utf8.first", "unicode/utf8.acceptRanges", "internal/bytealg.MaxLen"], plainKeys := false, apart := false, laid := [("unicode/utf8.acceptRanges", laid_unicode_utf8_acceptRanges), ("unicode/utf8.first", laid_unicode_utf8_first)] }
def TreemergeTurnedSaid : Prop := treemergeTurnedRow.holds Tryz.pinned (OpenSpec.ofChange treemergeTurnedSpec)

/-- ITS FALSE NEIGHBOUR: 'it returns false'. Refute it at one input. -/
def treemergeTurnedWrong : ChangeSpec := { name := "treemergeTurned", fn := fun _ => fun
  | [d1, d2, d3] => { results := [.lit (.bool false)], args := [d1, d2, d3] }
  | _ => none }
def TreemergeTurnedWrongFalsely : Prop := treemergeTurnedRow.holds Tryz.pinned (OpenSpec.ofChange treemergeTurnedWrong)

/- THE SECOND FORM. 'bulk': how many values and letters a reading holds, each counted each time it is reached (what is shared counts as often as it is met; a slice's spare places count too). A statement '..UptoSaid' is the law's where the arguments, and the package variables that the reading takes, are together of bulk at most 1048576: NARROWER than '..Said'. Prove '..Said' where nothing that the law and all that it calls make is longer than what came in: it says more and counts as full. Else prove '..UptoSaid'. A law counts once. -/
mutual
def uptoBulk {H : Type} : DataW H → Nat
  | .lit (.string bytes) => bytes.length + 1
  | .lit _ => 1
  | .nil => 1
  | .ptr d => uptoBulk d + 1
  | .slice elems spare => uptoBulkAll elems + uptoBulkAll spare + 1
  | .agg parts => uptoBulkAll parts + 1
  | .iface _ d => uptoBulk d + 1
  | .map entries => uptoBulkEntries entries + 1
  | .held _ => 1
def uptoBulkAll {H : Type} : List (DataW H) → Nat
  | [] => 0
  | d :: r => uptoBulk d + uptoBulkAll r
def uptoBulkEntries {H : Type} : List (Lit × DataW H) → Nat
  | [] => 0
  | x :: r => uptoBulkEntry x + uptoBulkEntries r
def uptoBulkEntry {H : Type} : Lit × DataW H → Nat
  | (.string bytes, d) => bytes.length + uptoBulk d + 1
  | (_, d) => uptoBulk d + 1
 end
def uptoSmall : (H : Type) → List (DataW H) → Bool := fun _ ds => decide (uptoBulkAll ds ≤ 1048576)
def OpenSpec.upto (s : _root_.Go.ChangeSpec) : _root_.Go.OpenSpec := { _root_.Go.OpenSpec.ofChange s with cond := some uptoSmall }

/-- 'ricklaw14.TreemergeTells', WHERE WHAT IT READS IS OF BULK AT MOST 1048576: true; the input reads as it did. -/
def treemergeTellsUptoRow : OpenClaim := { program := "ytcemkikgaeghjaagreatdoor", sum := "dd57ee67daafd533eb7a1a919b275e2f91773097a102c775e8095f9633e1045d", func := "rick/ricklaw14.TreemergeTells", spec := "treemergeTells", inPlace := ["internal/bytealg.CountString", "internal/bytealg.IndexByteString", "internal/bytealg.IndexString", "internal/abi.NoEscape", "internal/bytealg.MakeNoZero"], unfollowed := true, recurses := true, named := ["unicode/utf8.first", "unicode/utf8.acceptRanges", "internal/bytealg.MaxLen"], plainKeys := false, apart := false, laid := [("unicode/utf8.acceptRanges", laid_unicode_utf8_acceptRanges), ("unicode/utf8.first", laid_unicode_utf8_first)], narrowed := true }
def TreemergeTellsUptoSaid : Prop := treemergeTellsUptoRow.holds Tryz.pinned (OpenSpec.upto treemergeTellsSpec)

/-- 'ricklaw14.TreemergeOne', WHERE WHAT IT READS IS OF BULK AT MOST 1048576: true; the input reads as it did. -/
def treemergeOneUptoRow : OpenClaim := { program := "ytcemkikgaeghjaagreatdoor", sum := "dd57ee67daafd533eb7a1a919b275e2f91773097a102c775e8095f9633e1045d", func := "rick/ricklaw14.TreemergeOne", spec := "treemergeOne", inPlace := ["internal/bytealg.CountString", "internal/bytealg.IndexByteString", "internal/bytealg.IndexString", "internal/abi.NoEscape", "internal/bytealg.MakeNoZero"], unfollowed := true, recurses := true, named := ["unicode/utf8.first", "unicode/utf8.acceptRanges", "internal/bytealg.MaxLen"], plainKeys := false, apart := false, laid := [("unicode/utf8.acceptRanges", laid_unicode_utf8_acceptRanges), ("unicode/utf8.first", laid_unicode_utf8_first)], narrowed := true }
def TreemergeOneUptoSaid : Prop := treemergeOneUptoRow.holds Tryz.pinned (OpenSpec.upto treemergeOneSpec)

/-- 'ricklaw14.TreemergePaths', WHERE WHAT IT READS IS OF BULK AT MOST 1048576: true; the input reads as it did. -/
def treemergePathsUptoRow : OpenClaim := { program := "ytcemkikgaeghjaagreatdoor", sum := "dd57ee67daafd533eb7a1a919b275e2f91773097a102c775e8095f9633e1045d", func := "rick/ricklaw14.TreemergePaths", spec := "treemergePaths", inPlace := ["internal/bytealg.CountString", "internal/bytealg.IndexByteString", "internal/bytealg.IndexString", "internal/abi.NoEscape", "internal/bytealg.MakeNoZero"], unfollowed := true, recurses := true, named := ["unicode/utf8.first", "unicode/utf8.acceptRanges", "internal/bytealg.MaxLen"], plainKeys := false, apart := false, laid := [("unicode/utf8.acceptRanges", laid_unicode_utf8_acceptRanges), ("unicode/utf8.first", laid_unicode_utf8_first)], narrowed := true }
def TreemergePathsUptoSaid : Prop := treemergePathsUptoRow.holds Tryz.pinned (OpenSpec.upto treemergePathsSpec)

/-- 'ricklaw14.TreemergeMoves', WHERE WHAT IT READS IS OF BULK AT MOST 1048576: true; the input reads as it did. -/
def treemergeMovesUptoRow : OpenClaim := { program := "ytcemkikgaeghjaagreatdoor", sum := "dd57ee67daafd533eb7a1a919b275e2f91773097a102c775e8095f9633e1045d", func := "rick/ricklaw14.TreemergeMoves", spec := "treemergeMoves", inPlace := ["internal/bytealg.CountString", "internal/bytealg.IndexByteString", "internal/bytealg.IndexString", "internal/abi.NoEscape", "internal/bytealg.MakeNoZero"], unfollowed := true, recurses := true, named := ["unicode/utf8.first", "unicode/utf8.acceptRanges", "internal/bytealg.MaxLen"], plainKeys := false, apart := false, laid := [("unicode/utf8.acceptRanges", laid_unicode_utf8_acceptRanges), ("unicode/utf8.first", laid_unicode_utf8_first)], narrowed := true }
def TreemergeMovesUptoSaid : Prop := treemergeMovesUptoRow.holds Tryz.pinned (OpenSpec.upto treemergeMovesSpec)

/-- 'ricklaw14.TreemergeDeletes', WHERE WHAT IT READS IS OF BULK AT MOST 1048576: true; the input reads as it did. -/
def treemergeDeletesUptoRow : OpenClaim := { program := "ytcemkikgaeghjaagreatdoor", sum := "dd57ee67daafd533eb7a1a919b275e2f91773097a102c775e8095f9633e1045d", func := "rick/ricklaw14.TreemergeDeletes", spec := "treemergeDeletes", inPlace := ["internal/bytealg.CountString", "internal/bytealg.IndexByteString", "internal/bytealg.IndexString", "internal/abi.NoEscape", "internal/bytealg.MakeNoZero"], unfollowed := true, recurses := true, named := ["unicode/utf8.first", "unicode/utf8.acceptRanges", "internal/bytealg.MaxLen"], plainKeys := false, apart := false, laid := [("unicode/utf8.acceptRanges", laid_unicode_utf8_acceptRanges), ("unicode/utf8.first", laid_unicode_utf8_first)], narrowed := true }
def TreemergeDeletesUptoSaid : Prop := treemergeDeletesUptoRow.holds Tryz.pinned (OpenSpec.upto treemergeDeletesSpec)

/-- 'ricklaw14.TreemergeAdds', WHERE WHAT IT READS IS OF BULK AT MOST 1048576: true; the input reads as it did. -/
def treemergeAddsUptoRow : OpenClaim := { program := "ytcemkikgaeghjaagreatdoor", sum := "dd57ee67daafd533eb7a1a919b275e2f91773097a102c775e8095f9633e1045d", func := "rick/ricklaw14.TreemergeAdds", spec := "treemergeAdds", inPlace := ["internal/bytealg.CountString", "internal/bytealg.IndexByteString", "internal/bytealg.IndexString", "internal/abi.NoEscape", "internal/bytealg.MakeNoZero"], unfollowed := true, recurses := true, named := ["unicode/utf8.first", "unicode/utf8.acceptRanges", "internal/bytealg.MaxLen"], plainKeys := false, apart := false, laid := [("unicode/utf8.acceptRanges", laid_unicode_utf8_acceptRanges), ("unicode/utf8.first", laid_unicode_utf8_first)], narrowed := true }
def TreemergeAddsUptoSaid : Prop := treemergeAddsUptoRow.holds Tryz.pinned (OpenSpec.upto treemergeAddsSpec)

/-- 'ricklaw14.TreemergeTurned', WHERE WHAT IT READS IS OF BULK AT MOST 1048576: true; the input reads as it did. -/
def treemergeTurnedUptoRow : OpenClaim := { program := "ytcemkikgaeghjaagreatdoor", sum := "dd57ee67daafd533eb7a1a919b275e2f91773097a102c775e8095f9633e1045d", func := "rick/ricklaw14.TreemergeTurned", spec := "treemergeTurned", inPlace := ["internal/bytealg.CountString", "internal/bytealg.IndexByteString", "internal/bytealg.IndexString", "internal/abi.NoEscape", "internal/bytealg.MakeNoZero"], unfollowed := true, recurses := true, named := ["unicode/utf8.first", "unicode/utf8.acceptRanges", "internal/bytealg.MaxLen"], plainKeys := false, apart := false, laid := [("unicode/utf8.acceptRanges", laid_unicode_utf8_acceptRanges), ("unicode/utf8.first", laid_unicode_utf8_first)], narrowed := true }
def TreemergeTurnedUptoSaid : Prop := treemergeTurnedUptoRow.holds Tryz.pinned (OpenSpec.upto treemergeTurnedSpec)

end Rows
end Go.Proofs.YtcemkikgaeghjaaGreatDoor
