/- A box that holds a file, from world to world. -/
import Derived.Test.YtahlfafcjjkliaaGreatDoorM1
namespace Go.Proofs.YtahlfafcjjkliaaGreatDoor
open Go.RowKit
def Box (g : FV) (b : Nat) (u : World) : Prop := b < u.heap.size ∧ ∀ i v, g.cells[i]? = some v → u.cell? ⟨b, i, none⟩ = some v
theorem Box.re {g : FV} {b : Nat} {u u' : World} (h : Box g b u) (hb : Below u.heap.size u u') : Box g b u' :=
  ⟨Nat.lt_of_lt_of_le h.1 hb.size, fun i v hv => (hb.cell (p := ⟨b, i, none⟩) h.1).trans (h.2 i v hv)⟩
theorem Box.new (w : World) (g : FV) : Box g w.heap.size (w.alloc (.cells #[.string g.path, .bool g.exec, .string g.text] 35)) :=
  ⟨by simp, fun i v hv => by rw [World.cell?, heap_alloc_new]; simpa [FV.cells] using hv⟩
end Go.Proofs.YtahlfafcjjkliaaGreatDoor
