/- The world in which the tables of unicode/utf8 lie as the program lays them. -/
import Derived.Test.YtahlfafcjjkliaaGreatDoorRows
import Derived.Test.YtahlfafcjjkliaaGreatDoorCards
import Derived.Test.YtahlfafcjjkliaaGreatDoorTie
import Derived.Test.YtahlfafcjjkliaaGreatDoorPlain
import Derived.ProofKit
import Derived.OpenShut
import Derived.Deep.DeepHandedRow
import Derived.SevenTiedAt
namespace Go.Proofs.YtahlfafcjjkliaaGreatDoor
open Go.ChangeShapes Go.WideShapes Go.ChangeAt Go.RowKit

def uAcc : List Int := [128, 191, 160, 191, 128, 159, 144, 191, 128, 143, 0, 0, 0, 0, 0, 0, 0, 0, 0, 0, 0, 0, 0, 0, 0, 0, 0, 0, 0, 0, 0, 0]
def T.cellsOf (cs : List Value) : Obj → Obj
  | .cells _ t frozen => .cells cs.toArray t frozen
  | o => o
def uFirst : List Value := Go.Pinned.utf8FirstZ.map fun (z : Nat) => Value.int .u8 (Int.ofNat z)
noncomputable def laidU (os : Os) : World :=
  { World.holding Tryz.prog os ⟨#[], #[], []⟩ with heap := ((World.holding Tryz.prog os ⟨#[], #[], []⟩).heap.modify 1 (T.cellsOf uFirst)).modify 2 (T.cellsOf (uAcc.map fun z => .int .u8 z)) }
end Go.Proofs.YtahlfafcjjkliaaGreatDoor
