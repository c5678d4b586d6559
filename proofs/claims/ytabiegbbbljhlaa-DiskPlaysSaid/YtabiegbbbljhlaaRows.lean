/-
  No cell of these rows narrows 'for every input' (looked for: loops, veiled, ifaces, maps, wideKeys, modest, calm, conditions, laid).
  DERIVED. THE GIVEN ROWS OF THIS SEAT. 11 by the template 'for every input the law returns true; each argument reads behind the call as it read before'; 0 by the template 'total and deterministic' (their statements: YtabiegbbbljhlaaTotals.lean).
  GIVEN WITH THE SEED: the statements are not yours to turn. If you find one false, say at which input.
  Laid BY PROGRAM, IN A SANDBOX (cutbox-rows.mjs): the forced cells as the released guide's own fill.sh prints them over the translation 244b9eb76859f8de… (all of the seat's roots in one cut). By AI agents, Wed Nov 11 2026. No macro, syntax, notation, axiom, sorry.
-/
import Derived.Test.YtabiegbbbljhlaaChecked
import GoSem.Claim
import GoSem.ClaimJoined
import GoSem.ClaimMapViews
import Derived.JoinedTies
import Derived.KernelRfl
namespace Go.Proofs.Ytabiegbbbljhlaa
/- THE CELL 'sum', in the pinned program and in every row, IS THE sha256 OF THE DUMP (.gsa) THAT YtabiegbbbljhlaaProg.lean LOADS. Nothing in Lean hashes anything: it is a label: what it is worth is what the hold of that sum in a sandbox is worth. -/
noncomputable def Try.pinned : Pinned := { name := "ytabiegbbbljhlaa", sum := "244b9eb76859f8de59d69e0b79b2d6101d479c61efcabe171c5a8584d54ef5a0", checked := Try.checked }
namespace Rows
def none {H : Type} : Left H := { results := [], args := [] }

/-- 'ricklaw07.HunkMatch': WHATEVER THE INPUT: true; the input reads as it did. -/
def hunkMatchSpec : ChangeSpec := { name := "hunkMatch", fn := fun _ => fun
  | [d1, d2, d3] => { results := [.lit (.bool true)], args := [d1, d2, d3] }
  | _ => none }
def hunkMatchRow : OpenClaim := { program := "ytabiegbbbljhlaa", sum := "244b9eb76859f8de59d69e0b79b2d6101d479c61efcabe171c5a8584d54ef5a0", func := "rick/ricklaw07.HunkMatch", spec := "hunkMatch", unfollowed := true, recurses := true, apart := false }
def HunkMatchSaid : Prop := hunkMatchRow.holds Try.pinned (OpenSpec.ofChange hunkMatchSpec)

/-- ITS FALSE NEIGHBOUR: 'it returns false'. Refute it at one input. -/
def hunkMatchWrong : ChangeSpec := { name := "hunkMatch", fn := fun _ => fun
  | [d1, d2, d3] => { results := [.lit (.bool false)], args := [d1, d2, d3] }
  | _ => none }
def HunkMatchWrongFalsely : Prop := hunkMatchRow.holds Try.pinned (OpenSpec.ofChange hunkMatchWrong)

/-- 'ricklaw07.HunkMany': WHATEVER THE INPUT: true; the input reads as it did. -/
def hunkManySpec : ChangeSpec := { name := "hunkMany", fn := fun _ => fun
  | [d1, d2] => { results := [.lit (.bool true)], args := [d1, d2] }
  | _ => none }
def hunkManyRow : OpenClaim := { program := "ytabiegbbbljhlaa", sum := "244b9eb76859f8de59d69e0b79b2d6101d479c61efcabe171c5a8584d54ef5a0", func := "rick/ricklaw07.HunkMany", spec := "hunkMany", unfollowed := true, recurses := true, apart := false }
def HunkManySaid : Prop := hunkManyRow.holds Try.pinned (OpenSpec.ofChange hunkManySpec)

/-- ITS FALSE NEIGHBOUR: 'it returns false'. Refute it at one input. -/
def hunkManyWrong : ChangeSpec := { name := "hunkMany", fn := fun _ => fun
  | [d1, d2] => { results := [.lit (.bool false)], args := [d1, d2] }
  | _ => none }
def HunkManyWrongFalsely : Prop := hunkManyRow.holds Try.pinned (OpenSpec.ofChange hunkManyWrong)

/-- 'ricklaw07.HunkRuns': WHATEVER THE INPUT: true; the input reads as it did. -/
def hunkRunsSpec : ChangeSpec := { name := "hunkRuns", fn := fun _ => fun
  | [d1, d2] => { results := [.lit (.bool true)], args := [d1, d2] }
  | _ => none }
def hunkRunsRow : OpenClaim := { program := "ytabiegbbbljhlaa", sum := "244b9eb76859f8de59d69e0b79b2d6101d479c61efcabe171c5a8584d54ef5a0", func := "rick/ricklaw07.HunkRuns", spec := "hunkRuns", unfollowed := true, recurses := true, apart := false }
def HunkRunsSaid : Prop := hunkRunsRow.holds Try.pinned (OpenSpec.ofChange hunkRunsSpec)

/-- ITS FALSE NEIGHBOUR: 'it returns false'. Refute it at one input. -/
def hunkRunsWrong : ChangeSpec := { name := "hunkRuns", fn := fun _ => fun
  | [d1, d2] => { results := [.lit (.bool false)], args := [d1, d2] }
  | _ => none }
def HunkRunsWrongFalsely : Prop := hunkRunsRow.holds Try.pinned (OpenSpec.ofChange hunkRunsWrong)

/-- 'ricklaw07.HunkTells': WHATEVER THE INPUT: true; the input reads as it did. -/
def hunkTellsSpec : ChangeSpec := { name := "hunkTells", fn := fun _ => fun
  | [d1, d2, d3] => { results := [.lit (.bool true)], args := [d1, d2, d3] }
  | _ => none }
def hunkTellsRow : OpenClaim := { program := "ytabiegbbbljhlaa", sum := "244b9eb76859f8de59d69e0b79b2d6101d479c61efcabe171c5a8584d54ef5a0", func := "rick/ricklaw07.HunkTells", spec := "hunkTells", unfollowed := true, recurses := true, apart := false }
def HunkTellsSaid : Prop := hunkTellsRow.holds Try.pinned (OpenSpec.ofChange hunkTellsSpec)

/-- ITS FALSE NEIGHBOUR: 'it returns false'. Refute it at one input. -/
def hunkTellsWrong : ChangeSpec := { name := "hunkTells", fn := fun _ => fun
  | [d1, d2, d3] => { results := [.lit (.bool false)], args := [d1, d2, d3] }
  | _ => none }
def HunkTellsWrongFalsely : Prop := hunkTellsRow.holds Try.pinned (OpenSpec.ofChange hunkTellsWrong)

/-- 'ricklaw07.HunkBack': WHATEVER THE INPUT: true; the input reads as it did. -/
def hunkBackSpec : ChangeSpec := { name := "hunkBack", fn := fun _ => fun
  | [d1, d2] => { results := [.lit (.bool true)], args := [d1, d2] }
  | _ => none }
def hunkBackRow : OpenClaim := { program := "ytabiegbbbljhlaa", sum := "244b9eb76859f8de59d69e0b79b2d6101d479c61efcabe171c5a8584d54ef5a0", func := "rick/ricklaw07.HunkBack", spec := "hunkBack", unfollowed := true, recurses := true, apart := false }
def HunkBackSaid : Prop := hunkBackRow.holds Try.pinned (OpenSpec.ofChange hunkBackSpec)

/-- ITS FALSE NEIGHBOUR: 'it returns false'. Refute it at one input. -/
def hunkBackWrong : ChangeSpec := { name := "hunkBack", fn := fun _ => fun
  | [d1, d2] => { results := [.lit (.bool false)], args := [d1, d2] }
  | _ => none }
def HunkBackWrongFalsely : Prop := hunkBackRow.holds Try.pinned (OpenSpec.ofChange hunkBackWrong)

/-- 'ricklaw03.DiskForks': WHATEVER THE INPUT: true; the input reads as it did. -/
def diskForksSpec : ChangeSpec := { name := "diskForks", fn := fun _ => fun
  | [d1, d2] => { results := [.lit (.bool true)], args := [d1, d2] }
  | _ => none }
def diskForksRow : OpenClaim := { program := "ytabiegbbbljhlaa", sum := "244b9eb76859f8de59d69e0b79b2d6101d479c61efcabe171c5a8584d54ef5a0", func := "rick/ricklaw03.DiskForks", spec := "diskForks", apart := false }
def DiskForksSaid : Prop := diskForksRow.holds Try.pinned (OpenSpec.ofChange diskForksSpec)

/-- ITS FALSE NEIGHBOUR: 'it returns false'. Refute it at one input. -/
def diskForksWrong : ChangeSpec := { name := "diskForks", fn := fun _ => fun
  | [d1, d2] => { results := [.lit (.bool false)], args := [d1, d2] }
  | _ => none }
def DiskForksWrongFalsely : Prop := diskForksRow.holds Try.pinned (OpenSpec.ofChange diskForksWrong)

/-- 'ricklaw03.DiskDown': WHATEVER THE INPUT: true; the input reads as it did. -/
def diskDownSpec : ChangeSpec := { name := "diskDown", fn := fun _ => fun
  | [d1, d2] => { results := [.lit (.bool true)], args := [d1, d2] }
  | _ => none }
def diskDownRow : OpenClaim := { program := "ytabiegbbbljhlaa", sum := "244b9eb76859f8de59d69e0b79b2d6101d479c61efcabe171c5a8584d54ef5a0", func := "rick/ricklaw03.DiskDown", spec := "diskDown", apart := false }
def DiskDownSaid : Prop := diskDownRow.holds Try.pinned (OpenSpec.ofChange diskDownSpec)

/-- ITS FALSE NEIGHBOUR: 'it returns false'. Refute it at one input. -/
def diskDownWrong : ChangeSpec := { name := "diskDown", fn := fun _ => fun
  | [d1, d2] => { results := [.lit (.bool false)], args := [d1, d2] }
  | _ => none }
def DiskDownWrongFalsely : Prop := diskDownRow.holds Try.pinned (OpenSpec.ofChange diskDownWrong)

/-- 'ricklaw03.DiskKeeps': WHATEVER THE INPUT: true; the input reads as it did. -/
def diskKeepsSpec : ChangeSpec := { name := "diskKeeps", fn := fun _ => fun
  | [d1, d2, d3, d4] => { results := [.lit (.bool true)], args := [d1, d2, d3, d4] }
  | _ => none }
def diskKeepsRow : OpenClaim := { program := "ytabiegbbbljhlaa", sum := "244b9eb76859f8de59d69e0b79b2d6101d479c61efcabe171c5a8584d54ef5a0", func := "rick/ricklaw03.DiskKeeps", spec := "diskKeeps", apart := false }
def DiskKeepsSaid : Prop := diskKeepsRow.holds Try.pinned (OpenSpec.ofChange diskKeepsSpec)

/-- ITS FALSE NEIGHBOUR: 'it returns false'. Refute it at one input. -/
def diskKeepsWrong : ChangeSpec := { name := "diskKeeps", fn := fun _ => fun
  | [d1, d2, d3, d4] => { results := [.lit (.bool false)], args := [d1, d2, d3, d4] }
  | _ => none }
def DiskKeepsWrongFalsely : Prop := diskKeepsRow.holds Try.pinned (OpenSpec.ofChange diskKeepsWrong)

/-- 'ricklaw03.DiskCuts': WHATEVER THE INPUT: true; the input reads as it did. -/
def diskCutsSpec : ChangeSpec := { name := "diskCuts", fn := fun _ => fun
  | [d1, d2, d3, d4] => { results := [.lit (.bool true)], args := [d1, d2, d3, d4] }
  | _ => none }
def diskCutsRow : OpenClaim := { program := "ytabiegbbbljhlaa", sum := "244b9eb76859f8de59d69e0b79b2d6101d479c61efcabe171c5a8584d54ef5a0", func := "rick/ricklaw03.DiskCuts", spec := "diskCuts", apart := false }
def DiskCutsSaid : Prop := diskCutsRow.holds Try.pinned (OpenSpec.ofChange diskCutsSpec)

/-- ITS FALSE NEIGHBOUR: 'it returns false'. Refute it at one input. -/
def diskCutsWrong : ChangeSpec := { name := "diskCuts", fn := fun _ => fun
  | [d1, d2, d3, d4] => { results := [.lit (.bool false)], args := [d1, d2, d3, d4] }
  | _ => none }
def DiskCutsWrongFalsely : Prop := diskCutsRow.holds Try.pinned (OpenSpec.ofChange diskCutsWrong)

/-- 'ricklaw03.DiskPlays': WHATEVER THE INPUT: true; the input reads as it did. -/
def diskPlaysSpec : ChangeSpec := { name := "diskPlays", fn := fun _ => fun
  | [d1, d2] => { results := [.lit (.bool true)], args := [d1, d2] }
  | _ => none }
def diskPlaysRow : OpenClaim := { program := "ytabiegbbbljhlaa", sum := "244b9eb76859f8de59d69e0b79b2d6101d479c61efcabe171c5a8584d54ef5a0", func := "rick/ricklaw03.DiskPlays", spec := "diskPlays", unfollowed := true, recurses := true, apart := false }
def DiskPlaysSaid : Prop := diskPlaysRow.holds Try.pinned (OpenSpec.ofChange diskPlaysSpec)

/-- ITS FALSE NEIGHBOUR: 'it returns false'. Refute it at one input. -/
def diskPlaysWrong : ChangeSpec := { name := "diskPlays", fn := fun _ => fun
  | [d1, d2] => { results := [.lit (.bool false)], args := [d1, d2] }
  | _ => none }
def DiskPlaysWrongFalsely : Prop := diskPlaysRow.holds Try.pinned (OpenSpec.ofChange diskPlaysWrong)

/-- 'ricklaw03.DiskFull': WHATEVER THE INPUT: true; the input reads as it did. -/
def diskFullSpec : ChangeSpec := { name := "diskFull", fn := fun _ => fun
  | [d1, d2, d3] => { results := [.lit (.bool true)], args := [d1, d2, d3] }
  | _ => none }
def diskFullRow : OpenClaim := { program := "ytabiegbbbljhlaa", sum := "244b9eb76859f8de59d69e0b79b2d6101d479c61efcabe171c5a8584d54ef5a0", func := "rick/ricklaw03.DiskFull", spec := "diskFull", apart := false }
def DiskFullSaid : Prop := diskFullRow.holds Try.pinned (OpenSpec.ofChange diskFullSpec)

/-- ITS FALSE NEIGHBOUR: 'it returns false'. Refute it at one input. -/
def diskFullWrong : ChangeSpec := { name := "diskFull", fn := fun _ => fun
  | [d1, d2, d3] => { results := [.lit (.bool false)], args := [d1, d2, d3] }
  | _ => none }
def DiskFullWrongFalsely : Prop := diskFullRow.holds Try.pinned (OpenSpec.ofChange diskFullWrong)

/- THE SECOND FORM. 'bulk': how many values and letters a reading holds, each counted each time it is reached (what is shared counts as often as it is met; a slice's spare places count too). A statement '..UptoSaid' is the law's where the arguments, and the package variables that the reading takes, are together of bulk at most 1048576: NARROWER than '..Said'. Prove '..Said' where nothing that the law and all that it calls make is longer than what came in: it says more and counts as full. Else prove '..UptoSaid'. A law counts once. -/
mutual
def uptoBulk {H : Type} : DataW H → Nat
  | .lit (.string bytes) => bytes.length + 1
  | .lit _ => 1
  | .nil => 1
  | .ptr d => uptoBulk d + 1
  | .slice elems spare => uptoBulkAll elems + uptoBulkAll spare + 1
  | .agg parts => uptoBulkAll parts + 1
  | .iface _ d => uptoBulk d + 1
  | .map entries => uptoBulkEntries entries + 1
  | .held _ => 1
def uptoBulkAll {H : Type} : List (DataW H) → Nat
  | [] => 0
  | d :: r => uptoBulk d + uptoBulkAll r
def uptoBulkEntries {H : Type} : List (Lit × DataW H) → Nat
  | [] => 0
  | x :: r => uptoBulkEntry x + uptoBulkEntries r
def uptoBulkEntry {H : Type} : Lit × DataW H → Nat
  | (.string bytes, d) => bytes.length + uptoBulk d + 1
  | (_, d) => uptoBulk d + 1
 end
def uptoSmall : (H : Type) → List (DataW H) → Bool := fun _ ds => decide (uptoBulkAll ds ≤ 1048576)
def OpenSpec.upto (s : _root_.Go.ChangeSpec) : _root_.Go.OpenSpec := { _root_.Go.OpenSpec.ofChange s with cond := some uptoSmall }

/-- 'ricklaw07.HunkMatch', WHERE WHAT IT READS IS OF BULK AT MOST 1048576: true; the input reads as it did. -/
def hunkMatchUptoRow : OpenClaim := { program := "ytabiegbbbljhlaa", sum := "244b9eb76859f8de59d69e0b79b2d6101d479c61efcabe171c5a8584d54ef5a0", func := "rick/ricklaw07.HunkMatch", spec := "hunkMatch", unfollowed := true, recurses := true, apart := false, narrowed := true }
def HunkMatchUptoSaid : Prop := hunkMatchUptoRow.holds Try.pinned (OpenSpec.upto hunkMatchSpec)

/-- 'ricklaw07.HunkMany', WHERE WHAT IT READS IS OF BULK AT MOST 1048576: true; the input reads as it did. -/
def hunkManyUptoRow : OpenClaim := { program := "ytabiegbbbljhlaa", sum := "244b9eb76859f8de59d69e0b79b2d6101d479c61efcabe171c5a8584d54ef5a0", func := "rick/ricklaw07.HunkMany", spec := "hunkMany", unfollowed := true, recurses := true, apart := false, narrowed := true }
def HunkManyUptoSaid : Prop := hunkManyUptoRow.holds Try.pinned (OpenSpec.upto hunkManySpec)

/-- 'ricklaw07.HunkRuns', WHERE WHAT IT READS IS OF BULK AT MOST 1048576: true; the input reads as it did. -/
def hunkRunsUptoRow : OpenClaim := { program := "ytabiegbbbljhlaa", sum := "244b9eb76859f8de59d69e0b79b2d6101d479c61efcabe171c5a8584d54ef5a0", func := "rick/ricklaw07.HunkRuns", spec := "hunkRuns", unfollowed := true, recurses := true, apart := false, narrowed := true }
def HunkRunsUptoSaid : Prop := hunkRunsUptoRow.holds Try.pinned (OpenSpec.upto hunkRunsSpec)

/-- 'ricklaw07.HunkTells', WHERE WHAT IT READS IS OF BULK AT MOST 1048576: true; the input reads as it did. -/
def hunkTellsUptoRow : OpenClaim := { program := "ytabiegbbbljhlaa", sum := "244b9eb76859f8de59d69e0b79b2d6101d479c61efcabe171c5a8584d54ef5a0", func := "rick/ricklaw07.HunkTells", spec := "hunkTells", unfollowed := true, recurses := true, apart := false, narrowed := true }
def HunkTellsUptoSaid : Prop := hunkTellsUptoRow.holds Try.pinned (OpenSpec.upto hunkTellsSpec)

/-- 'ricklaw07.HunkBack', WHERE WHAT IT READS IS OF BULK AT MOST 1048576: true; the input reads as it did. -/
def hunkBackUptoRow : OpenClaim := { program := "ytabiegbbbljhlaa", sum := "244b9eb76859f8de59d69e0b79b2d6101d479c61efcabe171c5a8584d54ef5a0", func := "rick/ricklaw07.HunkBack", spec := "hunkBack", unfollowed := true, recurses := true, apart := false, narrowed := true }
def HunkBackUptoSaid : Prop := hunkBackUptoRow.holds Try.pinned (OpenSpec.upto hunkBackSpec)

/-- 'ricklaw03.DiskForks', WHERE WHAT IT READS IS OF BULK AT MOST 1048576: true; the input reads as it did. -/
def diskForksUptoRow : OpenClaim := { program := "ytabiegbbbljhlaa", sum := "244b9eb76859f8de59d69e0b79b2d6101d479c61efcabe171c5a8584d54ef5a0", func := "rick/ricklaw03.DiskForks", spec := "diskForks", apart := false, narrowed := true }
def DiskForksUptoSaid : Prop := diskForksUptoRow.holds Try.pinned (OpenSpec.upto diskForksSpec)

/-- 'ricklaw03.DiskDown', WHERE WHAT IT READS IS OF BULK AT MOST 1048576: true; the input reads as it did. -/
def diskDownUptoRow : OpenClaim := { program := "ytabiegbbbljhlaa", sum := "244b9eb76859f8de59d69e0b79b2d6101d479c61efcabe171c5a8584d54ef5a0", func := "rick/ricklaw03.DiskDown", spec := "diskDown", apart := false, narrowed := true }
def DiskDownUptoSaid : Prop := diskDownUptoRow.holds Try.pinned (OpenSpec.upto diskDownSpec)

/-- 'ricklaw03.DiskKeeps', WHERE WHAT IT READS IS OF BULK AT MOST 1048576: true; the input reads as it did. -/
def diskKeepsUptoRow : OpenClaim := { program := "ytabiegbbbljhlaa", sum := "244b9eb76859f8de59d69e0b79b2d6101d479c61efcabe171c5a8584d54ef5a0", func := "rick/ricklaw03.DiskKeeps", spec := "diskKeeps", apart := false, narrowed := true }
def DiskKeepsUptoSaid : Prop := diskKeepsUptoRow.holds Try.pinned (OpenSpec.upto diskKeepsSpec)

/-- 'ricklaw03.DiskCuts', WHERE WHAT IT READS IS OF BULK AT MOST 1048576: true; the input reads as it did. -/
def diskCutsUptoRow : OpenClaim := { program := "ytabiegbbbljhlaa", sum := "244b9eb76859f8de59d69e0b79b2d6101d479c61efcabe171c5a8584d54ef5a0", func := "rick/ricklaw03.DiskCuts", spec := "diskCuts", apart := false, narrowed := true }
def DiskCutsUptoSaid : Prop := diskCutsUptoRow.holds Try.pinned (OpenSpec.upto diskCutsSpec)

/-- 'ricklaw03.DiskPlays', WHERE WHAT IT READS IS OF BULK AT MOST 1048576: true; the input reads as it did. -/
def diskPlaysUptoRow : OpenClaim := { program := "ytabiegbbbljhlaa", sum := "244b9eb76859f8de59d69e0b79b2d6101d479c61efcabe171c5a8584d54ef5a0", func := "rick/ricklaw03.DiskPlays", spec := "diskPlays", unfollowed := true, recurses := true, apart := false, narrowed := true }
def DiskPlaysUptoSaid : Prop := diskPlaysUptoRow.holds Try.pinned (OpenSpec.upto diskPlaysSpec)

/-- 'ricklaw03.DiskFull', WHERE WHAT IT READS IS OF BULK AT MOST 1048576: true; the input reads as it did. -/
def diskFullUptoRow : OpenClaim := { program := "ytabiegbbbljhlaa", sum := "244b9eb76859f8de59d69e0b79b2d6101d479c61efcabe171c5a8584d54ef5a0", func := "rick/ricklaw03.DiskFull", spec := "diskFull", apart := false, narrowed := true }
def DiskFullUptoSaid : Prop := diskFullUptoRow.holds Try.pinned (OpenSpec.upto diskFullSpec)

end Rows
end Go.Proofs.Ytabiegbbbljhlaa
