/-
  No cell of these rows narrows 'for every input' (looked for: loops, veiled, ifaces, maps, wideKeys, modest, calm, conditions, laid).
  DERIVED. THE GIVEN ROWS OF THIS SEAT. 7 by the template 'for every input the law returns true; each argument reads behind the call as it read before'; 0 by the template 'total and deterministic' (their statements: YtnkboccngialiaaTotals.lean).
  GIVEN WITH THE SEED: the statements are not yours to turn. If you find one false, say at which input.
  Laid BY PROGRAM, IN A SANDBOX (cutbox-rows.mjs): the forced cells as the released guide's own fill.sh prints them over the translation 6cbefaf732379f50… (all of the seat's roots in one cut). By AI agents, Wed Nov 11 2026. No macro, syntax, notation, axiom, sorry.
-/
import Derived.Test.YtnkboccngialiaaChecked
import GoSem.Claim
import GoSem.ClaimJoined
import GoSem.ClaimMapViews
import Derived.JoinedTies
import Derived.KernelRfl
namespace Go.Proofs.Ytnkboccngialiaa
/- THE CELL 'sum', in the pinned program and in every row, IS THE sha256 OF THE DUMP (.gsa) THAT YtnkboccngialiaaProg.lean LOADS. Nothing in Lean hashes anything: it is a label: what it is worth is what the hold of that sum in a sandbox is worth. -/
noncomputable def Try.pinned : Pinned := { name := "ytnkboccngialiaa", sum := "6cbefaf732379f5093645c05d790a947b1a53f49af22a2d053cfd718376c83b6", checked := Try.checked }
namespace Rows
def none {H : Type} : Left H := { results := [], args := [] }

/-- 'ricklaw19.MarkerTells': WHATEVER THE INPUT: true; the input reads as it did. -/
def markerTellsSpec : ChangeSpec := { name := "markerTells", fn := fun _ => fun
  | [d1, d2, d3] => { results := [.lit (.bool true)], args := [d1, d2, d3] }
  | _ => none }
def markerTellsRow : OpenClaim := { program := "ytnkboccngialiaa", sum := "6cbefaf732379f5093645c05d790a947b1a53f49af22a2d053cfd718376c83b6", func := "rick/ricklaw19.MarkerTells", spec := "markerTells", unfollowed := true, recurses := true, plainKeys := false, apart := false }
def MarkerTellsSaid : Prop := markerTellsRow.holds Try.pinned (OpenSpec.ofChange markerTellsSpec)

/-- ITS FALSE NEIGHBOUR: 'it returns false'. Refute it at one input. -/
def markerTellsWrong : ChangeSpec := { name := "markerTells", fn := fun _ => fun
  | [d1, d2, d3] => { results := [.lit (.bool false)], args := [d1, d2, d3] }
  | _ => none }
def MarkerTellsWrongFalsely : Prop := markerTellsRow.holds Try.pinned (OpenSpec.ofChange markerTellsWrong)

/-- 'ricklaw19.MarkerFinal': WHATEVER THE INPUT: true; the input reads as it did. -/
def markerFinalSpec : ChangeSpec := { name := "markerFinal", fn := fun _ => fun
  | [d1, d2, d3] => { results := [.lit (.bool true)], args := [d1, d2, d3] }
  | _ => none }
def markerFinalRow : OpenClaim := { program := "ytnkboccngialiaa", sum := "6cbefaf732379f5093645c05d790a947b1a53f49af22a2d053cfd718376c83b6", func := "rick/ricklaw19.MarkerFinal", spec := "markerFinal", unfollowed := true, recurses := true, plainKeys := false, apart := false }
def MarkerFinalSaid : Prop := markerFinalRow.holds Try.pinned (OpenSpec.ofChange markerFinalSpec)

/-- ITS FALSE NEIGHBOUR: 'it returns false'. Refute it at one input. -/
def markerFinalWrong : ChangeSpec := { name := "markerFinal", fn := fun _ => fun
  | [d1, d2, d3] => { results := [.lit (.bool false)], args := [d1, d2, d3] }
  | _ => none }
def MarkerFinalWrongFalsely : Prop := markerFinalRow.holds Try.pinned (OpenSpec.ofChange markerFinalWrong)

/-- 'ricklaw19.MarkerChain': WHATEVER THE INPUT: true; the input reads as it did. -/
def markerChainSpec : ChangeSpec := { name := "markerChain", fn := fun _ => fun
  | [d1, d2] => { results := [.lit (.bool true)], args := [d1, d2] }
  | _ => none }
def markerChainRow : OpenClaim := { program := "ytnkboccngialiaa", sum := "6cbefaf732379f5093645c05d790a947b1a53f49af22a2d053cfd718376c83b6", func := "rick/ricklaw19.MarkerChain", spec := "markerChain", unfollowed := true, recurses := true, plainKeys := false, apart := false }
def MarkerChainSaid : Prop := markerChainRow.holds Try.pinned (OpenSpec.ofChange markerChainSpec)

/-- ITS FALSE NEIGHBOUR: 'it returns false'. Refute it at one input. -/
def markerChainWrong : ChangeSpec := { name := "markerChain", fn := fun _ => fun
  | [d1, d2] => { results := [.lit (.bool false)], args := [d1, d2] }
  | _ => none }
def MarkerChainWrongFalsely : Prop := markerChainRow.holds Try.pinned (OpenSpec.ofChange markerChainWrong)

/-- 'ricklaw23.PlanTells': WHATEVER THE INPUT: true; the input reads as it did. -/
def planTellsSpec : ChangeSpec := { name := "planTells", fn := fun _ => fun
  | [d1, d2, d3, d4] => { results := [.lit (.bool true)], args := [d1, d2, d3, d4] }
  | _ => none }
def planTellsRow : OpenClaim := { program := "ytnkboccngialiaa", sum := "6cbefaf732379f5093645c05d790a947b1a53f49af22a2d053cfd718376c83b6", func := "rick/ricklaw23.PlanTells", spec := "planTells", unfollowed := true, recurses := true, plainKeys := false, apart := false }
def PlanTellsSaid : Prop := planTellsRow.holds Try.pinned (OpenSpec.ofChange planTellsSpec)

/-- ITS FALSE NEIGHBOUR: 'it returns false'. Refute it at one input. -/
def planTellsWrong : ChangeSpec := { name := "planTells", fn := fun _ => fun
  | [d1, d2, d3, d4] => { results := [.lit (.bool false)], args := [d1, d2, d3, d4] }
  | _ => none }
def PlanTellsWrongFalsely : Prop := planTellsRow.holds Try.pinned (OpenSpec.ofChange planTellsWrong)

/-- 'ricklaw23.PlanMoves': WHATEVER THE INPUT: true; the input reads as it did. -/
def planMovesSpec : ChangeSpec := { name := "planMoves", fn := fun _ => fun
  | [d1, d2, d3] => { results := [.lit (.bool true)], args := [d1, d2, d3] }
  | _ => none }
def planMovesRow : OpenClaim := { program := "ytnkboccngialiaa", sum := "6cbefaf732379f5093645c05d790a947b1a53f49af22a2d053cfd718376c83b6", func := "rick/ricklaw23.PlanMoves", spec := "planMoves", unfollowed := true, recurses := true, plainKeys := false, apart := false }
def PlanMovesSaid : Prop := planMovesRow.holds Try.pinned (OpenSpec.ofChange planMovesSpec)

/-- ITS FALSE NEIGHBOUR: 'it returns false'. Refute it at one input. -/
def planMovesWrong : ChangeSpec := { name := "planMoves", fn := fun _ => fun
  | [d1, d2, d3] => { results := [.lit (.bool false)], args := [d1, d2, d3] }
  | _ => none }
def PlanMovesWrongFalsely : Prop := planMovesRow.holds Try.pinned (OpenSpec.ofChange planMovesWrong)

/-- 'ricklaw23.PlanOrphans': WHATEVER THE INPUT: true; the input reads as it did. -/
def planOrphansSpec : ChangeSpec := { name := "planOrphans", fn := fun _ => fun
  | [d1, d2] => { results := [.lit (.bool true)], args := [d1, d2] }
  | _ => none }
def planOrphansRow : OpenClaim := { program := "ytnkboccngialiaa", sum := "6cbefaf732379f5093645c05d790a947b1a53f49af22a2d053cfd718376c83b6", func := "rick/ricklaw23.PlanOrphans", spec := "planOrphans", unfollowed := true, recurses := true, plainKeys := false, apart := false }
def PlanOrphansSaid : Prop := planOrphansRow.holds Try.pinned (OpenSpec.ofChange planOrphansSpec)

/-- ITS FALSE NEIGHBOUR: 'it returns false'. Refute it at one input. -/
def planOrphansWrong : ChangeSpec := { name := "planOrphans", fn := fun _ => fun
  | [d1, d2] => { results := [.lit (.bool false)], args := [d1, d2] }
  | _ => none }
def PlanOrphansWrongFalsely : Prop := planOrphansRow.holds Try.pinned (OpenSpec.ofChange planOrphansWrong)

/-- 'ricklaw23.PlanAmends': WHATEVER THE INPUT: true; the input reads as it did. -/
def planAmendsSpec : ChangeSpec := { name := "planAmends", fn := fun _ => fun
  | [d1, d2] => { results := [.lit (.bool true)], args := [d1, d2] }
  | _ => none }
def planAmendsRow : OpenClaim := { program := "ytnkboccngialiaa", sum := "6cbefaf732379f5093645c05d790a947b1a53f49af22a2d053cfd718376c83b6", func := "rick/ricklaw23.PlanAmends", spec := "planAmends", unfollowed := true, recurses := true, plainKeys := false, apart := false }
def PlanAmendsSaid : Prop := planAmendsRow.holds Try.pinned (OpenSpec.ofChange planAmendsSpec)

/-- ITS FALSE NEIGHBOUR: 'it returns false'. Refute it at one input. -/
def planAmendsWrong : ChangeSpec := { name := "planAmends", fn := fun _ => fun
  | [d1, d2] => { results := [.lit (.bool false)], args := [d1, d2] }
  | _ => none }
def PlanAmendsWrongFalsely : Prop := planAmendsRow.holds Try.pinned (OpenSpec.ofChange planAmendsWrong)

/- THE SECOND FORM. 'bulk': how many values and letters a reading holds, each counted each time it is reached (what is shared counts as often as it is met; a slice's spare places count too). A statement '..UptoSaid' is the law's where the arguments, and the package variables that the reading takes, are together of bulk at most 1048576: NARROWER than '..Said'. Prove '..Said' where nothing that the law and all that it calls make is longer than what came in: it says more and counts as full. Else prove '..UptoSaid'. A law counts once. -/
mutual
def uptoBulk {H : Type} : DataW H → Nat
  | .lit (.string bytes) => bytes.length + 1
  | .lit _ => 1
  | .nil => 1
  | .ptr d => uptoBulk d + 1
  | .slice elems spare => uptoBulkAll elems + uptoBulkAll spare + 1
  | .agg parts => uptoBulkAll parts + 1
  | .iface _ d => uptoBulk d + 1
  | .map entries => uptoBulkEntries entries + 1
  | .held _ => 1
def uptoBulkAll {H : Type} : List (DataW H) → Nat
  | [] => 0
  | d :: r => uptoBulk d + uptoBulkAll r
def uptoBulkEntries {H : Type} : List (Lit × DataW H) → Nat
  | [] => 0
  | x :: r => uptoBulkEntry x + uptoBulkEntries r
def uptoBulkEntry {H : Type} : Lit × DataW H → Nat
  | (.string bytes, d) => bytes.length + uptoBulk d + 1
  | (_, d) => uptoBulk d + 1
 end
def uptoSmall : (H : Type) → List (DataW H) → Bool := fun _ ds => decide (uptoBulkAll ds ≤ 1048576)
def OpenSpec.upto (s : _root_.Go.ChangeSpec) : _root_.Go.OpenSpec := { _root_.Go.OpenSpec.ofChange s with cond := some uptoSmall }

/-- 'ricklaw19.MarkerTells', WHERE WHAT IT READS IS OF BULK AT MOST 1048576: true; the input reads as it did. -/
def markerTellsUptoRow : OpenClaim := { program := "ytnkboccngialiaa", sum := "6cbefaf732379f5093645c05d790a947b1a53f49af22a2d053cfd718376c83b6", func := "rick/ricklaw19.MarkerTells", spec := "markerTells", unfollowed := true, recurses := true, plainKeys := false, apart := false, narrowed := true }
def MarkerTellsUptoSaid : Prop := markerTellsUptoRow.holds Try.pinned (OpenSpec.upto markerTellsSpec)

/-- 'ricklaw19.MarkerFinal', WHERE WHAT IT READS IS OF BULK AT MOST 1048576: true; the input reads as it did. -/
def markerFinalUptoRow : OpenClaim := { program := "ytnkboccngialiaa", sum := "6cbefaf732379f5093645c05d790a947b1a53f49af22a2d053cfd718376c83b6", func := "rick/ricklaw19.MarkerFinal", spec := "markerFinal", unfollowed := true, recurses := true, plainKeys := false, apart := false, narrowed := true }
def MarkerFinalUptoSaid : Prop := markerFinalUptoRow.holds Try.pinned (OpenSpec.upto markerFinalSpec)

/-- 'ricklaw19.MarkerChain', WHERE WHAT IT READS IS OF BULK AT MOST 1048576: true; the input reads as it did. -/
def markerChainUptoRow : OpenClaim := { program := "ytnkboccngialiaa", sum := "6cbefaf732379f5093645c05d790a947b1a53f49af22a2d053cfd718376c83b6", func := "rick/ricklaw19.MarkerChain", spec := "markerChain", unfollowed := true, recurses := true, plainKeys := false, apart := false, narrowed := true }
def MarkerChainUptoSaid : Prop := markerChainUptoRow.holds Try.pinned (OpenSpec.upto markerChainSpec)

/-- 'ricklaw23.PlanTells', WHERE WHAT IT READS IS OF BULK AT MOST 1048576: true; the input reads as it did. -/
def planTellsUptoRow : OpenClaim := { program := "ytnkboccngialiaa", sum := "6cbefaf732379f5093645c05d790a947b1a53f49af22a2d053cfd718376c83b6", func := "rick/ricklaw23.PlanTells", spec := "planTells", unfollowed := true, recurses := true, plainKeys := false, apart := false, narrowed := true }
def PlanTellsUptoSaid : Prop := planTellsUptoRow.holds Try.pinned (OpenSpec.upto planTellsSpec)

/-- 'ricklaw23.PlanMoves', WHERE WHAT IT READS IS OF BULK AT MOST 1048576: true; the input reads as it did. -/
def planMovesUptoRow : OpenClaim := { program := "ytnkboccngialiaa", sum := "6cbefaf732379f5093645c05d790a947b1a53f49af22a2d053cfd718376c83b6", func := "rick/ricklaw23.PlanMoves", spec := "planMoves", unfollowed := true, recurses := true, plainKeys := false, apart := false, narrowed := true }
def PlanMovesUptoSaid : Prop := planMovesUptoRow.holds Try.pinned (OpenSpec.upto planMovesSpec)

/-- 'ricklaw23.PlanOrphans', WHERE WHAT IT READS IS OF BULK AT MOST 1048576: true; the input reads as it did. -/
def planOrphansUptoRow : OpenClaim := { program := "ytnkboccngialiaa", sum := "6cbefaf732379f5093645c05d790a947b1a53f49af22a2d053cfd718376c83b6", func := "rick/ricklaw23.PlanOrphans", spec := "planOrphans", unfollowed := true, recurses := true, plainKeys := false, apart := false, narrowed := true }
def PlanOrphansUptoSaid : Prop := planOrphansUptoRow.holds Try.pinned (OpenSpec.upto planOrphansSpec)

/-- 'ricklaw23.PlanAmends', WHERE WHAT IT READS IS OF BULK AT MOST 1048576: true; the input reads as it did. -/
def planAmendsUptoRow : OpenClaim := { program := "ytnkboccngialiaa", sum := "6cbefaf732379f5093645c05d790a947b1a53f49af22a2d053cfd718376c83b6", func := "rick/ricklaw23.PlanAmends", spec := "planAmends", unfollowed := true, recurses := true, plainKeys := false, apart := false, narrowed := true }
def PlanAmendsUptoSaid : Prop := planAmendsUptoRow.holds Try.pinned (OpenSpec.upto planAmendsSpec)

end Rows
end Go.Proofs.Ytnkboccngialiaa
